/- Replicas, plainly: what may be; add, merge, prune; what they keep. No program is named here. -/
import Derived.Test.YtjgbgmedbfhgdaaGreatMm
import Derived.Test.YtjgbgmedbfhgdaaGreatTs
import Derived.Test.YtjgbgmedbfhgdaaGreatTr
set_option linter.unusedVariables false
set_option linter.unusedSimpArgs false
namespace Go.AM

structure Rep where
  base : List Rw
  fc : Int
  fr : Int
  log : List Mv
  mks : List Mark
def kidsK (l : List Rw) (m : List Mv) : List Int := (m.map (·.ch)).foldl addK ((l.map (·.ch)).foldl addK [])
def knownB (v : List Mark) (c r : Int) : Bool := timeB c r && decide (c ≤ getM v r)
def aftB (r : Rep) : Bool := r.log.all fun m => befB r.fc r.fr m.c m.r
def mayF (r : Rep) : Bool :=
  mayR r.base && (mayV r.log && (mayM r.mks && (belowM (ofM r.log) r.mks && ((decide (r.fc = 0 ∧ r.fr = 0) || knownB r.mks r.fc r.fr) && (aftB r && decide ((kidsK r.base r.log).length ≤ 2000))))))
structure MayF (r : Rep) : Prop where
  tree : mayR r.base = true
  moves : mayV r.log = true
  marks : MayP r.mks
  cover : ∀ m ∈ r.log, m.c ≤ getM r.mks m.r
  floor : (r.fc = 0 ∧ r.fr = 0) ∨ knownB r.mks r.fc r.fr = true
  after : ∀ m ∈ r.log, befB r.fc r.fr m.c m.r = true
  few : (kidsK r.base r.log).length ≤ 2000
theorem timeB_iff {c r : Int} : timeB c r = true ↔ 1 ≤ c ∧ c ≤ 4611686018427387903 ∧ 1 ≤ r ∧ r ≤ 255 := by
  unfold timeB; simp only [Bool.and_eq_true, decide_eq_true_eq]; omega
theorem oneV_time {m : Mv} (h : oneV m = true) : 1 ≤ m.c ∧ m.c ≤ 4611686018427387903 ∧ 1 ≤ m.r ∧ m.r ≤ 255 := by
  unfold oneV at h; simp only [Bool.and_eq_true] at h; exact timeB_iff.1 h.1
theorem supV_le (r : Int) : ∀ (l : List Mv) (n k : Int), supV r l n ≤ k ↔ n ≤ k ∧ ∀ m ∈ l, m.r = r → m.c ≤ k
  | [], n, k => by simp [supV]
  | x :: l, n, k => by
    have ih := supV_le r l (if r = x.r then max n x.c else n) k
    have e : supV r (x :: l) n = supV r l (if r = x.r then max n x.c else n) := rfl
    rw [e, ih]
    simp only [List.mem_cons, forall_eq_or_imp]
    by_cases h : r = x.r
    · subst h
      simp only [if_true, forall_const]
      constructor
      · rintro ⟨h1, h2⟩; exact ⟨by omega, by omega, h2⟩
      · rintro ⟨h1, h2, h3⟩; exact ⟨by omega, h3⟩
    · have h' : ¬ x.r = r := fun e => h e.symm
      simp only [if_neg h, h', false_implies, true_and]
theorem getM_of (l : List Mv) (r : Int) : getM (ofM l) r = supV r l 0 := by
  unfold ofM
  rw [getM_foldM]
  rfl
theorem cover_iff {l : List Mv} {v : List Mark} (hl : ∀ m ∈ l, oneV m = true) (hv : MayP v) : belowM (ofM l) v = true ↔ ∀ m ∈ l, m.c ≤ getM v m.r := by
  have hm : MayP (ofM l) := foldM_may MayP.nil fun m hm => oneV_time (hl m hm)
  rw [belowM_iff hm hv.nonneg]
  constructor
  · intro h m hm
    have := h m.r
    rw [getM_of, supV_le] at this
    exact this.2 m hm rfl
  · intro h r
    rw [getM_of, supV_le]
    exact ⟨hv.nonneg r, fun m hm e => e ▸ h m hm⟩
theorem mayF_iff {r : Rep} : mayF r = true ↔ MayF r := by
  unfold mayF
  simp only [Bool.and_eq_true, Bool.or_eq_true, decide_eq_true_eq]
  constructor
  · rintro ⟨h1, h2, h3, h4, h5, h6, h7⟩
    have hM := mayM_iff.1 h3
    exact ⟨h1, h2, hM, (cover_iff (mayV_parts.1 h2).2.1 hM).1 h4, h5, fun m hm => List.all_eq_true.1 h6 m hm, h7⟩
  · rintro ⟨h1, h2, h3, h4, h5, h6, h7⟩
    exact ⟨h1, h2, mayM_iff.2 h3, (cover_iff (mayV_parts.1 h2).2.1 h3).2 h4, h5, List.all_eq_true.2 h6, h7⟩

def addF (r : Rep) (m : Mv) : Rep × Bool × Int :=
  if (mayF r && oneV m) = true then
    if befB r.fc r.fr m.c m.r = true then
      if newV r.log m = true then (⟨r.base, r.fc, r.fr, insV r.log m, raiseM r.mks m.c m.r⟩, true, 0) else (r, false, 0)
    else (r, false, 9)
  else (r, false, 1)
def pruneF (r : Rep) (c t : Int) : Rep × Int :=
  if (mayF r && knownB r.mks c t) = true then
    if befB r.fc r.fr c t = true then (⟨allV r.base (r.log.take (r.log.length - (sinV r.log c t).length)), c, t, sinV r.log c t, r.mks⟩, 0) else (r, 0)
  else (r, 1)

theorem addKs_length : ∀ (xs K : List Int), (xs.foldl addK K).length ≤ K.length + xs.length
  | [], K => by simp
  | x :: xs, K => by
    have h1 := addKs_length xs (addK K x)
    have h2 : (addK K x).length ≤ K.length + 1 := by unfold addK; split <;> simp
    simp only [List.foldl_cons, List.length_cons]; omega
theorem kidsK_length (l : List Rw) (m : List Mv) : (kidsK l m).length ≤ l.length + m.length := by
  unfold kidsK
  have h1 := addKs_length (m.map (·.ch)) ((l.map (·.ch)).foldl addK [])
  have h2 := addKs_length (l.map (·.ch)) []
  simp at h1 h2; omega
theorem befB_irr (c r : Int) : befB c r c r = false := by
  cases h : befB c r c r with
  | false => rfl
  | true => rw [befB_iff] at h; omega
theorem befB_trans {a b c d e f : Int} (h : befB a b c d = true) (k : befB c d e f = true) : befB a b e f = true := by
  rw [befB_iff] at *; omega
theorem newV_false {l : List Mv} {m : Mv} : newV l m = false ↔ ∃ x ∈ l, x.c = m.c ∧ x.r = m.r := by
  unfold newV; rw [Bool.not_eq_false', any_tm]
/-- A move that is added leaves what may be. -/
theorem MayF.add {r : Rep} (h : MayF r) {m : Mv} (hm : oneV m = true) (hb : befB r.fc r.fr m.c m.r = true) (hl : r.log.length < 1000) (hB : r.base.length < 1000) : MayF ⟨r.base, r.fc, r.fr, insV r.log m, raiseM r.mks m.c m.r⟩ := by
  have ht := oneV_time hm
  obtain ⟨p1, p2, p3⟩ := mayV_parts.1 h.moves
  have hlen := insV_length r.log m
  have hget : ∀ x, getM r.mks x ≤ getM (raiseM r.mks m.c m.r) x := fun x => by
    rw [getM_raise]; split
    · rename_i e; rw [e]; omega
    · omega
  refine ⟨h.tree, mayV_parts.2 ⟨by dsimp only; omega, fun x hx => ?_, insV_sorted p3⟩, h.marks.raise ⟨ht.2.2.1, ht.2.2.2⟩ ht.2.1, fun x hx => ?_, ?_, fun x hx => ?_, ?_⟩
  · rcases insV_mem hx with rfl | hx
    · exact hm
    · exact p2 x hx
  · rcases insV_mem hx with rfl | hx
    · dsimp only; rw [getM_raise, if_pos rfl]; omega
    · exact Int.le_trans (h.cover x hx) (hget x.r)
  · rcases h.floor with hf | hf
    · exact .inl hf
    · refine .inr ?_
      unfold knownB at hf ⊢
      simp only [Bool.and_eq_true, decide_eq_true_eq] at hf ⊢
      exact ⟨hf.1, Int.le_trans hf.2 (hget _)⟩
  · rcases insV_mem hx with rfl | hx
    · exact hb
    · exact h.after x hx
  · have := kidsK_length r.base (insV r.log m)
    dsimp only; omega
theorem sinV_mem {l : List Mv} {c r : Int} {x : Mv} : x ∈ sinV l c r ↔ x ∈ l ∧ befB c r x.c x.r = true := by
  unfold sinV; rw [List.mem_filter]
theorem sinV_length (l : List Mv) (c r : Int) : (sinV l c r).length ≤ l.length := List.length_filter_le _ _
theorem mayR_all : ∀ {ms : List Mv} {l : List Rw}, mayR l = true → (∀ m ∈ ms, oneV m = true) → l.length + ms.length ≤ 2000 → mayR (allV l ms) = true
  | [], l, h, _, _ => h
  | m :: ms, l, h, hm, hl => by
    have dl := doV_length l m
    simp only [List.length_cons] at hl
    have hd : mayR (doV l m) = true := by
      cases hb : barV l m with
      | true => rw [doV_bar hb]; exact h
      | false => exact mayR_do h (hm m List.mem_cons_self) hb (by omega)
    exact mayR_all (ms := ms) hd (fun x hx => hm x (List.mem_cons_of_mem _ hx)) (by omega)
/-- What is pruned may be. -/
theorem MayF.prune {r : Rep} (h : MayF r) {c t : Int} (hk : knownB r.mks c t = true) (hl : r.log.length < 800) (hB : r.base.length < 800) : MayF ⟨allV r.base (r.log.take (r.log.length - (sinV r.log c t).length)), c, t, sinV r.log c t, r.mks⟩ := by
  obtain ⟨p1, p2, p3⟩ := mayV_parts.1 h.moves
  have hlen := sinV_length r.log c t
  have ha := allV_length (r.log.take (r.log.length - (sinV r.log c t).length)) r.base
  simp only [List.length_take] at ha
  refine ⟨mayR_all h.tree (fun x hx => p2 x (List.mem_of_mem_take hx)) (by simp only [List.length_take]; omega), mayV_parts.2 ⟨by dsimp only; omega, fun x hx => p2 x (sinV_mem.1 hx).1, ?_⟩, h.marks, fun x hx => h.cover x (sinV_mem.1 hx).1, .inr hk, fun x hx => (sinV_mem.1 hx).2, ?_⟩
  · exact p3.sublist List.filter_sublist
  · have := kidsK_length (allV r.base (r.log.take (r.log.length - (sinV r.log c t).length))) (sinV r.log c t)
    dsimp only; omega
/-- Equal, but for what a float's kind of nothing is. -/
def sameF (a b : Rep) : Bool := sameR a.base b.base && (decide (a.fc = b.fc ∧ a.fr = b.fr) && (sameV a.log b.log && decide (a.mks = b.mks)))
theorem sameV_refl (a : List Mv) : sameV a a = true := by simp [sameV]
theorem sameF_refl (a : Rep) : sameF a a = true := by simp [sameF, sameR_refl, sameV_refl]
end Go.AM
/- Replicas: what the document's functions and their references do, plainly. -/
set_option linter.unusedVariables false
set_option linter.unusedSimpArgs false
namespace Go.AM

theorem ieqs_ii (a b c d : Int) : ieqs .eql [.i, .i] [.int .i64 a, .int .i64 b] [.int .i64 c, .int .i64 d] = some (.bool (decide (a = c ∧ b = d))) := by
  simp [ieqs, ieqL, ieq1]
  by_cases h1 : a = c <;> by_cases h2 : b = d <;> simp [h1, h2]
theorem ieqs_nn (a b c d : Int) : ieqs .neq [.i, .i] [.int .i64 a, .int .i64 b] [.int .i64 c, .int .i64 d] = some (.bool (!decide (a = c ∧ b = d))) := by
  simp [ieqs, ieqL, ieq1]
  by_cases h1 : a = c <;> by_cases h2 : b = d <;> simp [h1, h2]
theorem iter_next {f : List IV → Option SR} {vs vs' : List IV} (n : Nat) (h : f vs = some (.next vs')) : iter (n + 1) f vs = iter n f vs' := by
  rw [iter, h]; rfl
structure SmF (n : Nat) (r : Rep) : Prop where
  base : r.base.length ≤ n
  log : r.log.length ≤ n
  mks : r.mks.length ≤ n
structure OKF (r : Rep) : Prop where
  base : OKl r.base
  log : ∀ m ∈ r.log, OKm m
theorem OKF.fl {r : Rep} (h : OKF r) : FlOK r.log := fun m hm => (h.log m hm).rk
def eRep (r : Rep) (l : List IV) : List IV := eRws r.base :: .int .i64 r.fc :: .int .i64 r.fr :: eMvs r.log :: eMarks r.mks :: l

theorem floor_known_eq {v : List Mark} (hv : v.length < 2 ^ 16) (c r : Int) : floor_known_s (eMarks v) (.int .i64 c) (.int .i64 r) = some [.bool (knownB v c r)] := by
  unfold floor_known_s knownB timeB
  simp only [ibin_geq, ibin_leq, Option.bind_some, icond_dec, marks_Get_eq hv, nth_zero]
  by_cases h1 : 1 ≤ c <;> by_cases h2 : c ≤ 4611686018427387903 <;> by_cases h3 : 1 ≤ r <;> by_cases h4 : r ≤ 255 <;> simp [h1, h2, h3, h4]
theorem kids_loop {α : Type} {f : List IV → Option SR} {l : List α} {g : α → Int} (hl : l.length < 2 ^ 16) (K : List Int)
    (h1 : ∀ (i : Nat) (x : α) (K : List Int), l[i]? = some x → f [eK K, .int .i64 (i : Int)] = some (.next [eK (addK K (g x)), .int .i64 ((i + 1 : Nat) : Int)])) (h2 : ∀ K : List Int, f [eK K, .int .i64 (l.length : Int)] = some (.done 0 [eK K])) :
    iter rounds f [eK K, .int .i64 0] = some (0, [eK ((l.map g).foldl addK K)]) := by
  rw [iter_fold (vs0 := [eK K, .int .i64 0]) (fun i (s : List Int) => [eK s, .int .i64 (i : Int)]) (fun K (x : α) => addK K (g x)) 0 (fun s => [eK s]) (fun _ _ => True) l K rfl (by have := rounds_eq; omega) trivial]
  · rw [List.foldl_map]
  · intro i s x hx _; exact ⟨trivial, h1 i x s hx⟩
  · intro s _; exact h2 s
theorem floor_children_eq {l : List Rw} {m : List Mv} (hl : l.length < 2 ^ 16) (hm : m.length < 2 ^ 16) (a b c : IV) : floor_children_s (eRws l) a b (eMvs m) c = some [eK (kidsK l m)] := by
  unfold floor_children_s kidsK
  have e0 : (IV.map []) = eK [] := rfl
  simp only [ilenL_lst, Option.bind_some, List.length_map, e0]
  rw [kids_loop (l := l) (g := (·.ch)) hl []]
  · simp only [Option.bind_some, sel_zero, nth_zero]
    rw [kids_loop (l := m) (g := (·.ch)) hm]
    · simp only [Option.bind_some, sel_zero, nth_zero]
    · intro i x K hx
      have hi : i < m.length := (List.getElem?_eq_some_iff.1 hx).1
      unfold floor_children_l8
      simp only [nth_zero, nth_one, nth_two, nth_three, ibin_lss, Int.ofNat_lt, hi, at_Mv hx, decide_true, icond_true, Option.bind_some, imputK_K, ibin_succ (show i < 2 ^ 62 by omega)]
    · intro K
      unfold floor_children_l8
      simp
  · intro i x K hx
    have hi : i < l.length := (List.getElem?_eq_some_iff.1 hx).1
    unfold floor_children_l3
    simp only [nth_zero, nth_one, ibin_lss, Int.ofNat_lt, hi, at_Rw hx, decide_true, icond_true, Option.bind_some, imputK_K, ibin_succ (show i < 2 ^ 62 by omega)]
  · intro K
    unfold floor_children_l3
    simp
theorem ref18_Children_eq {l : List Rw} {m : List Mv} (hl : l.length < 2 ^ 16) (hm : m.length < 2 ^ 16) (c : Int) : ref18_Children_s (eRws l) (eMvs m) (.int .i64 c) = some [.int .i64 ((kidsK l m).length : Int), .bool ((kidsK l m).contains c)] := by
  unfold ref18_Children_s kidsK
  have e0 : (IV.map []) = eK [] := rfl
  simp only [e0]
  rw [kids_loop (l := l) (g := (·.ch)) hl []]
  · simp only [Option.bind_some, sel_zero, nth_zero]
    rw [kids_loop (l := m) (g := (·.ch)) hm]
    · simp only [Option.bind_some, sel_zero, nth_zero, imlen_K, imgetK_K]
      rfl
    · intro i x K hx
      have hi : i < m.length := (List.getElem?_eq_some_iff.1 hx).1
      unfold ref18_Children_l7
      simp only [ilenL_lst, List.length_map, nth_zero, nth_one, nth_two, nth_three, ibin_lss, Int.ofNat_lt, hi, at_Mv hx, decide_true, icond_true, Option.bind_some, imputK_K, ibin_succ (show i < 2 ^ 62 by omega)]
    · intro K
      unfold ref18_Children_l7
      simp
  · intro i x K hx
    have hi : i < l.length := (List.getElem?_eq_some_iff.1 hx).1
    unfold ref18_Children_l3
    simp only [ilenL_lst, List.length_map, nth_zero, nth_one, ibin_lss, Int.ofNat_lt, hi, at_Rw hx, decide_true, icond_true, Option.bind_some, imputK_K, ibin_succ (show i < 2 ^ 62 by omega)]
  · intro K
    unfold ref18_Children_l3
    simp
theorem ofM_length (l : List Mv) : (ofM l).length ≤ l.length := by
  have := foldM_length l []
  simpa [ofM] using this
theorem aft_len (r : Rep) : decide ((sinV r.log r.fc r.fr).length = r.log.length) = aftB r := by
  unfold aftB sinV
  rw [Bool.eq_iff_iff, decide_eq_true_eq, List.all_eq_true]
  exact List.length_filter_eq_length_iff
theorem floor_May_eq {r : Rep} (h : SmF 2000 r) (ho : OKF r) : floor_May_s (eRws r.base) (.int .i64 r.fc) (.int .i64 r.fr) (eMvs r.log) (eMarks r.mks) = some [.bool (mayF r)] := by
  have hb := h.base
  have hlg := h.log
  have hmk := h.mks
  have hof := ofM_length r.log
  have hs := sinV_length r.log r.fc r.fr
  have c1 : floor_May_1_s (.ptr [eRws r.base, .int .i64 r.fc, .int .i64 r.fr, eMvs r.log, eMarks r.mks] 0) = some [.bool (mayR r.base && (mayV r.log && mayM r.mks))] := by
    unfold floor_May_1_s
    simp [ipnn, ipld, tree_May_eq (l := r.base) (by omega) ho.base, moves_May_eq (l := r.log) (by omega), marks_May_eq (v := r.mks) (by omega), icond_bool]
    cases mayR r.base <;> cases mayV r.log <;> simp
  have c2 : floor_May_2_s (.ptr [eRws r.base, .int .i64 r.fc, .int .i64 r.fr, eMvs r.log, eMarks r.mks] 0) = some [.bool (belowM (ofM r.log) r.mks)] := by
    unfold floor_May_2_s
    simp [ipnn, ipld, marks_Of_eq (l := r.log) (by omega), marks_Below_eq (a := ofM r.log) (b := r.mks) (by omega) (by omega)]
  have c3 : floor_May_3_s (.ptr [eRws r.base, .int .i64 r.fc, .int .i64 r.fr, eMvs r.log, eMarks r.mks] 0) = some [.bool (decide (r.fc = 0 ∧ r.fr = 0) || knownB r.mks r.fc r.fr)] := by
    unfold floor_May_3_s
    simp [ipnn, ipld, ipldN, ieqs_ii, icond_bool, floor_known_eq (v := r.mks) (by omega)]
    by_cases e : r.fc = 0 ∧ r.fr = 0 <;> simp [e]
  have c4 : floor_May_4_s (.ptr [eRws r.base, .int .i64 r.fc, .int .i64 r.fr, eMvs r.log, eMarks r.mks] 0) = some [.bool (aftB r)] := by
    unfold floor_May_4_s
    simp [ipnn, ipld, ipldN, moves_Since_eq (l := r.log) (by omega)]
    rw [← aft_len r]
    congr 1
    apply propext
    omega
  have c5 : floor_May_5_s (.ptr [eRws r.base, .int .i64 r.fc, .int .i64 r.fr, eMvs r.log, eMarks r.mks] 0) = some [.bool (decide ((kidsK r.base r.log).length ≤ 2000))] := by
    unfold floor_May_5_s
    simp [ipldN, floor_children_eq (l := r.base) (m := r.log) (by omega) (by omega), imlen_K]
    omega
  have step : ∀ (i : Nat) (b : Bool) (cl : IV), i < 5 → ild (.lst [[(.clo (.func n_floor_May_1) [(.ptr [eRws r.base, .int .i64 r.fc, .int .i64 r.fr, eMvs r.log, eMarks r.mks] 0)])], [(.clo (.func n_floor_May_2) [(.ptr [eRws r.base, .int .i64 r.fc, .int .i64 r.fr, eMvs r.log, eMarks r.mks] 0)])], [(.clo (.func n_floor_May_3) [(.ptr [eRws r.base, .int .i64 r.fc, .int .i64 r.fr, eMvs r.log, eMarks r.mks] 0)])], [(.clo (.func n_floor_May_4) [(.ptr [eRws r.base, .int .i64 r.fc, .int .i64 r.fr, eMvs r.log, eMarks r.mks] 0)])], [(.clo (.func n_floor_May_5) [(.ptr [eRws r.base, .int .i64 r.fc, .int .i64 r.fr, eMvs r.log, eMarks r.mks] 0)])]]) i 0 = some cl → Cx_floor_May cl [1] [] = some [.bool b] →
      floor_May_l2 (eRws r.base) (.int .i64 r.fc) (.int .i64 r.fr) (eMvs r.log) (eMarks r.mks) [.int .i64 (i : Int)] = some (if b = true then .next [.int .i64 ((i + 1 : Nat) : Int)] else .done 1 [.bool false]) := by
    intro i b cl hi h1 h2
    have e1 : ibidx 5 (.int .i64 (i : Int)) = some i := ibidx_lt hi
    have hi2 : (i : Int) < ((5 : Nat) : Int) := by omega
    unfold floor_May_l2
    simp only [nth_zero, ibin_lss, hi2, decide_true, icond_true, Option.bind_some, e1, h1, h2, iun_not, icond_bool, ibin_succ (show i < 2 ^ 62 by omega)]
    cases b <;> simp
  have s0 := step 0 _ _ (by decide) rfl (show Cx_floor_May _ _ _ = _ from c1)
  have s1 := step 1 _ _ (by decide) rfl (show Cx_floor_May _ _ _ = _ from c2)
  have s2 := step 2 _ _ (by decide) rfl (show Cx_floor_May _ _ _ = _ from c3)
  have s3 := step 3 _ _ (by decide) rfl (show Cx_floor_May _ _ _ = _ from c4)
  have s4 := step 4 _ _ (by decide) rfl (show Cx_floor_May _ _ _ = _ from c5)
  have s5 : floor_May_l2 (eRws r.base) (.int .i64 r.fc) (.int .i64 r.fr) (eMvs r.log) (eMarks r.mks) [.int .i64 ((5 : Nat) : Int)] = some (.done 0 []) := by
    unfold floor_May_l2
    simp
  unfold floor_May_s mayF
  obtain ⟨N, hN⟩ : ∃ N, rounds = N + 1 + 1 + 1 + 1 + 1 + 1 := ⟨999994, rfl⟩
  rw [hN, show (IV.int .i64 0) = IV.int .i64 ((0 : Nat) : Int) from rfl]
  generalize floor_May_l2 (eRws r.base) (.int .i64 r.fc) (.int .i64 r.fr) (eMvs r.log) (eMarks r.mks) = f at *
  have done : ∀ (n i : Nat) (b : Bool), f [.int .i64 (i : Int)] = some (if b = true then .next [.int .i64 ((i + 1 : Nat) : Int)] else .done 1 [.bool false]) → iter (n + 1) f [.int .i64 (i : Int)] = if b = true then iter n f [.int .i64 ((i + 1 : Nat) : Int)] else some (1, [.bool false]) := by
    intro n i b h
    cases b with
    | true => rw [iter_next n h, if_pos rfl]
    | false => rw [iter_done n h]; rfl
  rw [done _ 0 _ s0, done _ 1 _ s1, done _ 2 _ s2, done _ 3 _ s3, done _ 4 _ s4, iter_done _ s5]
  cases mayR r.base <;> cases mayV r.log <;> cases mayM r.mks <;> cases belowM (ofM r.log) r.mks <;> cases (decide (r.fc = 0 ∧ r.fr = 0) || knownB r.mks r.fc r.fr) <;> cases aftB r <;> cases decide ((kidsK r.base r.log).length ≤ 2000) <;> rfl
end Go.AM

/- Replicas: may be, add, merge, prune: the document's functions and their references do the same. -/
set_option linter.unusedVariables false
set_option linter.unusedSimpArgs false
namespace Go.AM

theorem law18_live_eq : law18_live_s = some [.bool true] := by kernel_rfl
theorem ref18_May_eq {r : Rep} (h : SmF 2000 r) (ho : OKF r) : ref18_May_s (eRws r.base) (.int .i64 r.fc) (.int .i64 r.fr) (eMvs r.log) (eMarks r.mks) = some [.bool (mayF r)] := by
  have hb := h.base
  have hlg := h.log
  have hmk := h.mks
  have hof := ofM_length r.log
  unfold ref18_May_s mayF
  have hit : iter rounds (ref18_May_l6 (eMvs r.log) (.int .i64 r.fc) (.int .i64 r.fr)) [.int .i64 0] = some (if aftB r = true then (0, []) else (1, [.bool false])) := by
    rw [iter_check (vs0 := [IV.int .i64 0]) (fun i => [IV.int .i64 (i : Int)]) (fun _ (m : Mv) => !befB r.fc r.fr m.c m.r) 1 [.bool false] 0 [] r.log rfl (by have := rounds_eq; omega), anyI_any, any_not (fun m : Mv => befB r.fc r.fr m.c m.r)]
    · unfold aftB
      cases r.log.all fun m => befB r.fc r.fr m.c m.r <;> rfl
    · intro i x hx
      have hi : i < r.log.length := (List.getElem?_eq_some_iff.1 hx).1
      have h2 := ildN_pre (enc := eMv) (n := 2) hx (by simp [eMv])
      unfold ref18_May_l6
      simp only [ilenL_lst, nth_zero, ibin_lss, List.length_map, Int.ofNat_lt, hi, at_Mv hx, h2, decide_true, icond_true, Option.bind_some, eMv, List.take, nth_one, ref02_Before_eq, iun_not, icond_bool, ibin_succ (show i < 2 ^ 62 by omega)]
      cases befB r.fc r.fr x.c x.r <;> simp
    · unfold ref18_May_l6
      simp
  simp only [ref12_May_eq (l := r.base) (by omega), ref13_May_eq, ref17_May_eq (v := r.mks) (by omega), ref17_Of_eq (l := r.log) (by omega), ref17_Below_eq (a := ofM r.log) (b := r.mks) (by omega) (by omega), Option.bind_some, nth_zero, iun_not, icond_mb, icond_bool, ieqs_nn, ref13_Time_eq, ref17_Get_eq (v := r.mks) (show r.mks.length < 2 ^ 16 by omega), ibin_gtr, hit, ref18_Children_eq (l := r.base) (m := r.log) (show r.base.length < 2 ^ 16 by omega) (show r.log.length < 2 ^ 16 by omega), ibin_leq, scal_bool, scal_nil, Option.map_some, knownB]
  have hk : decide (((kidsK r.base r.log).length : Int) ≤ 2000) = decide ((kidsK r.base r.log).length ≤ 2000) := by
    congr 1; apply propext; omega
  rw [hk]
  have hg : decide (getM r.mks r.fr < r.fc) = !decide (r.fc ≤ getM r.mks r.fr) := by
    rw [Bool.eq_iff_iff]; simp
  rw [hg]
  generalize mayR r.base = b1
  generalize mayV r.log = b2
  generalize mayM r.mks = b3
  generalize belowM (ofM r.log) r.mks = b4
  generalize decide (r.fc = 0 ∧ r.fr = 0) = b5
  generalize timeB r.fc r.fr = b6
  generalize decide (r.fc ≤ getM r.mks r.fr) = b7
  generalize aftB r = b8
  generalize decide ((kidsK r.base r.log).length ≤ 2000) = b9
  cases b1 <;> cases b2 <;> cases b3 <;> cases b4 <;> try rfl
  cases b5 <;> cases b6 <;> cases b7 <;> cases b8 <;> rfl

theorem SmF.mono {n m : Nat} {r : Rep} (h : SmF n r) (hnm : n ≤ m) : SmF m r := ⟨Nat.le_trans h.base hnm, Nat.le_trans h.log hnm, Nat.le_trans h.mks hnm⟩
theorem SmF.add {n : Nat} {r : Rep} (h : SmF n r) (m : Mv) : SmF (n + 1) (addF r m).1 := by
  have h1 := h.base
  have h2 := h.log
  have h3 := h.mks
  have h4 := insV_length r.log m
  have h5 := raiseM_length (c := m.c) (r := m.r) r.mks
  unfold addF
  split
  · split
    · split
      · exact ⟨by dsimp only; omega, by dsimp only; omega, by dsimp only; omega⟩
      · exact h.mono (by omega)
    · exact h.mono (by omega)
  · exact h.mono (by omega)
theorem insV_okm {l : List Mv} {m : Mv} (h : ∀ x ∈ l, OKm x) (hm : OKm m) : ∀ x ∈ insV l m, OKm x := fun x hx => by
  rcases insV_mem hx with rfl | hx
  · exact hm
  · exact h x hx
theorem OKF.add {r : Rep} (h : OKF r) {m : Mv} (hm : OKm m) : OKF (addF r m).1 := by
  unfold addF
  split
  · split
    · split
      · exact ⟨h.base, insV_okm h.log hm⟩
      · exact h
    · exact h
  · exact h
theorem OKF.prune {r : Rep} (h : OKF r) (c t : Int) : OKF (pruneF r c t).1 := by
  unfold pruneF
  split
  · split
    · exact ⟨OKl.allV h.base fun m hm => h.log m (List.mem_of_mem_take hm), fun m hm => h.log m (sinV_mem.1 hm).1⟩
    · exact h
  · exact h
theorem SmF.prune {n : Nat} {r : Rep} (h : SmF n r) (c t : Int) : SmF (n + n) (pruneF r c t).1 := by
  have h1 := h.base
  have h2 := h.log
  have h3 := h.mks
  have h4 := sinV_length r.log c t
  have h5 := allV_length (r.log.take (r.log.length - (sinV r.log c t).length)) r.base
  simp only [List.length_take] at h5
  unfold pruneF
  split
  · split
    · exact ⟨by dsimp only; omega, by dsimp only; omega, by dsimp only; omega⟩
    · exact h.mono (by omega)
  · exact h.mono (by omega)

theorem floor_Add_eq {r : Rep} (h : SmF 900 r) (ho : OKF r) {m : Mv} (hm : OKm m) : floor_Add_s (eRws r.base) (.int .i64 r.fc) (.int .i64 r.fr) (eMvs r.log) (eMarks r.mks) (.int .i64 m.c) (.int .i64 m.r) (.int .i64 m.par) (.int .i64 m.ch) (.str m.nm) (.flt .f64 m.rk) =
    some [eRws (addF r m).1.base, .int .i64 (addF r m).1.fc, .int .i64 (addF r m).1.fr, eMvs (addF r m).1.log, eMarks (addF r m).1.mks, .bool (addF r m).2.1, .int .i64 (addF r m).2.2] := by
  have hb := h.base
  have hlg := h.log
  have hmk := h.mks
  have hk := kidsK_length r.base r.log
  have n1 : ¬ ((r.log.length : Int) = 2000) := by omega
  have n2 : ¬ (((kidsK r.base r.log).length : Int) = 2000) := by omega
  unfold floor_Add_s addF
  simp only [floor_May_eq (h.mono (by omega)) ho, moves_One_eq, rank_Before_eq, moves_Insert_eq (l := r.log) (show r.log.length < 2 ^ 16 by omega), floor_children_eq (l := r.base) (m := r.log) (show r.base.length < 2 ^ 16 by omega) (show r.log.length < 2 ^ 16 by omega), marks_Raise_eq (l := r.mks) (show r.mks.length < 2 ^ 16 by omega), Option.bind_some, nth_zero, nth_one, nth_two, iun_not, icond_mb, icond_bool, ilenL_lst, List.length_map, imlen_K, imgetK_K, ibin_eql, icond_dec, n1, n2, if_false, decide_false, icond_false]
  cases mayF r <;> cases oneV m <;> cases befB r.fc r.fr m.c m.r <;> cases newV r.log m <;> simp
theorem ref18_Add_eq {r : Rep} (h : SmF 900 r) (ho : OKF r) {m : Mv} (hm : OKm m) : ref18_Add_s (eRws r.base) (.int .i64 r.fc) (.int .i64 r.fr) (eMvs r.log) (eMarks r.mks) (.int .i64 m.c) (.int .i64 m.r) (.int .i64 m.par) (.int .i64 m.ch) (.str m.nm) (.flt .f64 m.rk) =
    some [eRws (addF r m).1.base, .int .i64 (addF r m).1.fc, .int .i64 (addF r m).1.fr, eMvs (addF r m).1.log, eMarks (addF r m).1.mks, .bool (addF r m).2.1, .int .i64 (addF r m).2.2] := by
  have hb := h.base
  have hlg := h.log
  have hmk := h.mks
  have hk := kidsK_length r.base r.log
  have n1 : ¬ ((2000 : Int) ≤ (r.log.length : Int)) := by omega
  have n2 : ¬ ((2000 : Int) ≤ ((kidsK r.base r.log).length : Int)) := by omega
  unfold ref18_Add_s addF
  simp only [ref18_May_eq (h.mono (by omega)) ho, ref13_One_eq, ref02_Before_eq, ref13_Insert_eq (l := r.log) (show r.log.length < 2 ^ 16 by omega), ref18_Children_eq (l := r.base) (m := r.log) (show r.base.length < 2 ^ 16 by omega) (show r.log.length < 2 ^ 16 by omega), ref17_Raise_eq (l := r.mks) (show r.mks.length < 2 ^ 16 by omega), Option.bind_some, nth_zero, nth_one, nth_two, iun_not, icond_mb, icond_bool, ilenL_lst, List.length_map, ibin_geq, icond_dec, n1, n2, if_false, decide_false, icond_false]
  cases mayF r <;> cases oneV m <;> cases befB r.fc r.fr m.c m.r <;> cases newV r.log m <;> simp
theorem sub_nat {a b : Nat} (h : b ≤ a) (ha : a < 2 ^ 60) : ibin .sub (.int .i64 (a : Int)) (.int .i64 (b : Int)) = some (.int .i64 ((a - b : Nat) : Int)) := by
  rw [ibin_sub (by omega) (by omega)]
  congr 2; omega
theorem floor_Prune_eq {r : Rep} (h : SmF 2000 r) (ho : OKF r) (c t : Int) : floor_Prune_s (eRws r.base) (.int .i64 r.fc) (.int .i64 r.fr) (eMvs r.log) (eMarks r.mks) (.int .i64 c) (.int .i64 t) =
    some [eRws (pruneF r c t).1.base, .int .i64 (pruneF r c t).1.fc, .int .i64 (pruneF r c t).1.fr, eMvs (pruneF r c t).1.log, eMarks (pruneF r c t).1.mks, .int .i64 (pruneF r c t).2] := by
  have hb := h.base
  have hlg := h.log
  have hmk := h.mks
  have hs := sinV_length r.log c t
  have hall := fold_All_eq (l := r.base) (ms := r.log.take (r.log.length - (sinV r.log c t).length)) (by simp only [List.length_take]; omega) ho.base fun m hm => ho.log m (List.mem_of_mem_take hm)
  unfold floor_Prune_s pruneF
  simp only [floor_May_eq h ho, floor_known_eq (v := r.mks) (show r.mks.length < 2 ^ 16 by omega), rank_Before_eq, moves_Since_eq (l := r.log) (show r.log.length < 2 ^ 16 by omega), Option.bind_some, nth_zero, iun_not, icond_mb, icond_bool, ilenL_lst, List.length_map, sub_nat hs (by omega), islcL_hi (l := r.log) (Nat.sub_le _ _), hall]
  cases mayF r <;> cases knownB r.mks c t <;> cases befB r.fc r.fr c t <;> simp
theorem ref18_Prune_eq {r : Rep} (h : SmF 2000 r) (ho : OKF r) (c t : Int) : ref18_Prune_s (eRws r.base) (.int .i64 r.fc) (.int .i64 r.fr) (eMvs r.log) (eMarks r.mks) (.int .i64 c) (.int .i64 t) =
    some [eRws (pruneF r c t).1.base, .int .i64 (pruneF r c t).1.fc, .int .i64 (pruneF r c t).1.fr, eMvs (pruneF r c t).1.log, eMarks (pruneF r c t).1.mks, .int .i64 (pruneF r c t).2] := by
  have hb := h.base
  have hlg := h.log
  have hmk := h.mks
  have hs := sinV_length r.log c t
  have hall := ref14_All_eq (l := r.base) (ms := r.log.take (r.log.length - (sinV r.log c t).length)) (by simp only [List.length_take]; omega)
  have hg : decide (getM r.mks t < c) = !decide (c ≤ getM r.mks t) := by
    rw [Bool.eq_iff_iff]; simp
  unfold ref18_Prune_s pruneF
  simp only [ref18_May_eq h ho, ref13_Time_eq, ref17_Get_eq (v := r.mks) (show r.mks.length < 2 ^ 16 by omega), ibin_gtr, hg, ref02_Before_eq, ref13_Since_eq (l := r.log) (show r.log.length < 2 ^ 16 by omega), Option.bind_some, nth_zero, iun_not, icond_mb, icond_bool, ilenL_lst, List.length_map, sub_nat hs (by omega), islcL_hi (l := r.log) (Nat.sub_le _ _), hall, knownB]
  rcases Bool.eq_false_or_eq_true (mayF r) with e1 | e1 <;> rcases Bool.eq_false_or_eq_true (timeB c t) with e2 | e2 <;> rcases Bool.eq_false_or_eq_true (befB r.fc r.fr c t) with e3 | e3 <;> by_cases e4 : c ≤ getM r.mks t <;> simp [e1, e2, e3, e4]
theorem floor_Tree_eq {r : Rep} (h : SmF 2000 r) (ho : OKF r) (a b c : IV) : floor_Tree_s (eRws r.base) a b (eMvs r.log) c = some [eRws (allV r.base r.log)] := by
  have hb := h.base
  have hlg := h.log
  unfold floor_Tree_s
  simp only [fold_All_eq (l := r.base) (ms := r.log) (by omega) ho.base ho.log, Option.bind_some, nth_zero]
theorem ref18_Tree_eq {r : Rep} (h : SmF 2000 r) (a b c : IV) : ref18_Tree_s (eRws r.base) a b (eMvs r.log) c = some [eRws (allV r.base r.log)] := by
  have hb := h.base
  have hlg := h.log
  unfold ref18_Tree_s
  simp only [ref14_All_eq (l := r.base) (ms := r.log) (by omega), Option.bind_some, nth_zero]
theorem slices_Equal_eq {a b : List Mark} (ha : a.length < 2 ^ 16) : slices_Equal_Mark_s (eMarks a) (eMarks b) = some [.bool (decide (a = b))] := by
  unfold slices_Equal_Mark_s
  simp only [ilenL_lst, List.length_map, Option.bind_some, ibin_neq, icond_dec]
  by_cases h : a.length = b.length
  · rw [if_neg (by simp [h])]
    rw [iter_check (vs0 := [IV.int .i64 0]) (fun i => [IV.int .i64 (i : Int)]) (fun i (x : Mark) => !decide (x.r = (b.getD i x).r ∧ x.c = (b.getD i x).c)) 1 [.bool false] 0 [] a rfl (by have := rounds_eq; omega)]
    · have hk : anyI (fun i (x : Mark) => !decide (x.r = (b.getD i x).r ∧ x.c = (b.getD i x).c)) a 0 = !decide (a = b) := by
        rw [Bool.eq_iff_iff, anyI_true]
        simp only [Nat.zero_add, Bool.not_eq_true', decide_eq_false_iff_not]
        constructor
        · rintro ⟨i, x, hx, hne⟩ e
          subst e
          apply hne
          rw [List.getD_eq_getElem?_getD, hx]; exact ⟨rfl, rfl⟩
        · intro hne
          apply Classical.byContradiction
          intro hall
          apply hne
          apply List.ext_getElem?
          intro i
          rcases Nat.lt_or_ge i a.length with hi | hi
          · have h1 := List.getElem?_eq_getElem hi
            have h2 : b[i]? = some b[i] := List.getElem?_eq_getElem (by omega)
            rw [h1, h2]
            congr 1
            apply Classical.byContradiction
            intro hc
            refine hall ⟨i, a[i], h1, ?_⟩
            rw [List.getD_eq_getElem?_getD, h2]
            rintro ⟨e1, e2⟩
            apply hc
            have e1' : a[i].r = b[i].r := e1
            have e2' : a[i].c = b[i].c := e2
            generalize a[i] = p at *
            generalize b[i] = q at *
            cases p; cases q; simp at e1' e2'; simp [e1', e2']
          · rw [List.getElem?_eq_none hi, List.getElem?_eq_none (by omega)]
      rw [hk]
      cases hd : decide (a = b) <;> simp
    · intro i x hx
      have hi : i < a.length := (List.getElem?_eq_some_iff.1 hx).1
      have hy : b[i]? = some b[i] := List.getElem?_eq_getElem (by omega)
      unfold slices_Equal_Mark_l4
      simp only [Option.bind_some, nth_zero, nth_one, ibin_lss, Int.ofNat_lt, hi, at_Mark hx, at_Mark hy, decide_true, icond_true, ieqs_nn, icond_bool, ibin_succ (show i < 2 ^ 62 by omega), List.getD_eq_getElem?_getD, hy, Option.getD_some]
      by_cases hc : x.r = b[i].r ∧ x.c = b[i].c <;> simp [hc]
    · unfold slices_Equal_Mark_l4
      simp
  · rw [if_pos (by simp; omega)]
    have : a ≠ b := fun e => h (by rw [e])
    simp [this]
theorem floor_Same_eq {a b : Rep} (h : SmF 2000 a) (ha : OKF a) (hb : OKF b) : floor_Same_s (eRws a.base) (.int .i64 a.fc) (.int .i64 a.fr) (eMvs a.log) (eMarks a.mks) (eRws b.base) (.int .i64 b.fc) (.int .i64 b.fr) (eMvs b.log) (eMarks b.mks) = some [.bool (sameF a b)] := by
  have h1 := h.base
  have h2 := h.log
  have h3 := h.mks
  unfold floor_Same_s sameF
  simp only [ieqs_ii, Option.bind_some, icond_bool, tree_Same_eq (a := a.base) (b := b.base) (by omega) ha.base.fl hb.base.fl, moves_Same_eq (a := a.log) (b := b.log) (by omega) ha.fl hb.fl, slices_Equal_eq (a := a.mks) (b := b.mks) (by omega), nth_zero]
  cases decide (a.fc = b.fc ∧ a.fr = b.fr) <;> cases sameR a.base b.base <;> cases sameV a.log b.log <;> simp
theorem ref18_Same_eq {a b : Rep} (h : SmF 2000 a) (ha : OKF a) (hb : OKF b) : ref18_Same_s (eRws a.base) (.int .i64 a.fc) (.int .i64 a.fr) (eMvs a.log) (eMarks a.mks) (eRws b.base) (.int .i64 b.fc) (.int .i64 b.fr) (eMvs b.log) (eMarks b.mks) = some [.bool (sameF a b)] := by
  have h1 := h.base
  have h2 := h.log
  have h3 := h.mks
  unfold ref18_Same_s sameF
  simp only [ieqs_ii, Option.bind_some, icond_bool, ref12_Same_eq (a := a.base) (b := b.base) (by omega) ha.base.fl hb.base.fl, ref13_Same_eq (a := a.log) (b := b.log) (by omega) ha.fl hb.fl, ref17_Same_eq (a := a.mks) (b := b.mks) (by omega), nth_zero]
  cases decide (a.fc = b.fc ∧ a.fr = b.fr) <;> cases sameR a.base b.base <;> cases sameV a.log b.log <;> simp
def fewF (r : Rep) : Bool := fewR r.base && (fewV r.log 60 && decide (r.mks.length ≤ 60))
theorem ref18_Few_eq (r : Rep) (a b : IV) : ref18_Few_s (eRws r.base) a b (eMvs r.log) (eMarks r.mks) = some [.bool (fewF r)] := by
  have hf : ref13_Few_s (eMvs r.log) (.int .i64 60) = some [.bool (fewV r.log 60)] := ref13_Few_eq (n := 60) (by decide)
  have hd : decide ((r.mks.length : Int) ≤ 60) = decide (r.mks.length ≤ 60) := by congr 1; apply propext; omega
  unfold ref18_Few_s fewF
  simp only [ref12_Few_eq, hf, Option.bind_some, nth_zero, icond_bool, ilenL_lst, List.length_map, ibin_leq, hd]
  cases fewR r.base <;> cases fewV r.log 60 <;> simp
theorem fewF_sm {r : Rep} (h : fewF r = true) : SmF 60 r := by
  unfold fewF at h
  simp only [Bool.and_eq_true, decide_eq_true_eq] at h
  exact ⟨fewR_len h.1, fewV_len h.2.1, h.2.2⟩
end Go.AM

/- FloorTells, FloorMerges, FloorMay, FloorTwice, plainly. -/
set_option linter.unusedVariables false
set_option linter.unusedSimpArgs false
namespace Go.AM

theorem some_true {p : Prop} [Decidable p] (h : p) : decide p = true := by simpa using h
set_option maxHeartbeats 1000000 in
theorem law18_FloorTells_true (r o : Rep) (m : Mv) (hr : OKF r) (ho : OKF o) (hm : OKm m) :
    law18_FloorTells_s (eRws r.base) (.int .i64 r.fc) (.int .i64 r.fr) (eMvs r.log) (eMarks r.mks) (eRws o.base) (.int .i64 o.fc) (.int .i64 o.fr) (eMvs o.log) (eMarks o.mks) (.int .i64 m.c) (.int .i64 m.r) (.int .i64 m.par) (.int .i64 m.ch) (.str m.nm) (.flt .f64 m.rk) = some [.bool true] := by
  unfold law18_FloorTells_s
  simp only [ref18_Few_eq, law18_live_eq, Option.bind_some, nth_zero, iun_not, ilenS_str, ibin_gtr, icond_bool]
  by_cases h1 : fewF r = true
  · by_cases h2 : fewF o = true
    · by_cases h3 : 100 < (m.nm.size : Int)
      · simp [h1, h2, h3]
      · have s := fewF_sm h1
        have s2 : SmF 2000 r := s.mono (by omega)
        have f1 := floor_Add_eq (s.mono (by omega)) hr hm
        have f2 := ref18_Add_eq (s.mono (by omega)) hr hm
        have f3 := floor_Prune_eq s2 hr m.c m.r
        have f4 := ref18_Prune_eq s2 hr m.c m.r
        have f5 := floor_May_eq s2 hr
        have f6 := ref18_May_eq s2 hr
        have f7 := floor_Tree_eq s2 hr (.int .i64 r.fc) (.int .i64 r.fr) (eMarks r.mks)
        have f8 := ref18_Tree_eq s2 (.int .i64 r.fc) (.int .i64 r.fr) (eMarks r.mks)
        have hA := OKl.allV hr.base hr.log
        have f9 := ref12_Same_eq (a := allV r.base r.log) (b := allV r.base r.log) (by have := allV_length r.log r.base; have := s.base; have := s.log; omega) hA.fl hA.fl
        have f10 := floor_Same_eq s2 hr ho
        have f11 := ref18_Same_eq s2 hr ho
        have f12 := ref18_Same_eq (a := (addF r m).1) (b := (addF r m).1) ((s.add m).mono (by omega)) (hr.add hm) (hr.add hm)
        have f13 := ref18_Same_eq (a := (pruneF r m.c m.r).1) (b := (pruneF r m.c m.r).1) ((s.prune m.c m.r).mono (by omega)) (hr.prune _ _) (hr.prune _ _)
        simp only [sameR_refl, sameF_refl] at f9 f12 f13
        simp only [h1, h2, h3, decide_false, Bool.not_true, Bool.false_eq_true, if_false, Option.bind_some, nth_zero, nth_one, nth_two, nth_three, nth_four, nth_five, nth_six, icond_false, icond_true, f1, f2, f3, f4, f5, f6, f7, f8, f9, f10, f11, f12, f13, ibinB_eql, beq_self_eq_true, ibin_eql, decide_true, law18_live_eq, scal_bool, scal_nil, Option.map_some]
    · simp [h1, h2]
  · simp [h1]

/-- Moves that come. -/
def mergeF (r0 : Rep) : Rep → List Mv → Rep × Int
  | r, [] => (r, 0)
  | r, m :: ms => if (addF r m).2.2 = 0 then mergeF r0 (addF r m).1 ms else (r0, (addF r m).2.2)
def merge_enc (v0 v1 v2 v3 v4 : IV) (i : Nat) (r : Rep) : List IV := [v0, v1, v2, v3, v4, eRws r.base, .int .i64 r.fc, .int .i64 r.fr, eMvs r.log, eMarks r.mks, .int .i64 (i : Int)]
theorem merge_loop {f : List IV → Option SR} {l : List Mv} {r0 : Rep} {v0 v1 v2 v3 v4 : IV} (hl : l.length ≤ 100) (hm : ∀ m ∈ l, OKm m)
    (hs : ∀ (i : Nat) (m : Mv) (r : Rep), l[i]? = some m → SmF 900 r → OKF r → f (merge_enc v0 v1 v2 v3 v4 i r) = some (if (addF r m).2.2 = 0 then .next (merge_enc v0 v1 v2 v3 v4 (i + 1) (addF r m).1) else .done 1 [eRws r0.base, .int .i64 r0.fc, .int .i64 r0.fr, eMvs r0.log, eMarks r0.mks, .int .i64 (addF r m).2.2]))
    (he : ∀ r : Rep, f (merge_enc v0 v1 v2 v3 v4 l.length r) = some (.done 0 [v0, v1, v2, v3, v4, eRws r.base, .int .i64 r.fc, .int .i64 r.fr, eMvs r.log, eMarks r.mks])) :
    ∀ (k i : Nat) (n : Nat) (r : Rep), i + k = l.length → k < n → SmF (200 + i) r → OKF r → iter n f (merge_enc v0 v1 v2 v3 v4 i r) = some (if (mergeF r0 r (l.drop i)).2 = 0 then (0, [v0, v1, v2, v3, v4, eRws (mergeF r0 r (l.drop i)).1.base, .int .i64 (mergeF r0 r (l.drop i)).1.fc, .int .i64 (mergeF r0 r (l.drop i)).1.fr, eMvs (mergeF r0 r (l.drop i)).1.log, eMarks (mergeF r0 r (l.drop i)).1.mks]) else (1, [eRws r0.base, .int .i64 r0.fc, .int .i64 r0.fr, eMvs r0.log, eMarks r0.mks, .int .i64 (mergeF r0 r (l.drop i)).2])) := by
  intro k
  induction k with
  | zero =>
    intro i n r hi hn hS hO
    obtain ⟨n, rfl⟩ : ∃ n', n = n' + 1 := ⟨n - 1, by omega⟩
    obtain rfl : i = l.length := by omega
    rw [iter_done n (he r), List.drop_length]
    rfl
  | succ k ih =>
    intro i n r hi hn hS hO
    obtain ⟨n, rfl⟩ : ∃ n', n = n' + 1 := ⟨n - 1, by omega⟩
    have hlt : i < l.length := by omega
    have hx : l[i]? = some l[i] := List.getElem?_eq_getElem hlt
    have hst := hs i l[i] r hx (hS.mono (by omega)) hO
    have hd : l.drop i = l[i] :: l.drop (i + 1) := List.drop_eq_getElem_cons hlt
    rw [hd]
    unfold mergeF
    by_cases h0 : (addF r l[i]).2.2 = 0
    · rw [if_pos h0] at hst ⊢
      rw [iter_next n hst, ih (i + 1) n _ (by omega) (by omega) ((hS.add _).mono (by omega)) (hO.add (hm _ (List.getElem_mem hlt)))]
    · rw [if_neg h0] at hst ⊢
      rw [iter_done n hst]
      simp [h0]
theorem mergeF_err {r0 : Rep} : ∀ (l : List Mv) (r : Rep), (mergeF r0 r l).2 ≠ 0 → (mergeF r0 r l).1 = r0
  | [], r, h => absurd rfl h
  | m :: l, r, h => by
    unfold mergeF at h ⊢
    split
    · rename_i h0; rw [if_pos h0] at h; exact mergeF_err l _ h
    · rfl
theorem floor_Merge_eq {r : Rep} {l : List Mv} (h : SmF 200 r) (ho : OKF r) (hl : l.length ≤ 100) (hm : ∀ m ∈ l, OKm m) : floor_Merge_s (eRws r.base) (.int .i64 r.fc) (.int .i64 r.fr) (eMvs r.log) (eMarks r.mks) (eMvs l) =
    some [eRws (mergeF r r l).1.base, .int .i64 (mergeF r r l).1.fc, .int .i64 (mergeF r r l).1.fr, eMvs (mergeF r r l).1.log, eMarks (mergeF r r l).1.mks, .int .i64 (mergeF r r l).2] := by
  unfold floor_Merge_s
  simp only [ilenL_lst, Option.bind_some, List.length_map]
  have := merge_loop (f := floor_Merge_l3 (.int .i64 (l.length : Int)) (eMvs l) (eRws r.base) (.int .i64 r.fc) (.int .i64 r.fr) (eMvs r.log) (eMarks r.mks)) (l := l) (r0 := r) (v0 := .lst []) (v1 := .int .i64 0) (v2 := .int .i64 0) (v3 := .lst []) (v4 := .lst []) hl hm
    (fun i m r' hx hS hO => by
      have hi : i < l.length := (List.getElem?_eq_some_iff.1 hx).1
      have ha := floor_Add_eq hS hO (hm m (List.mem_of_getElem? hx))
      unfold floor_Merge_l3 merge_enc
      have n8 : ∀ (a b c d e f g h i j k : IV), nth [a, b, c, d, e, f, g, h, i, j, k] 8 = i := fun _ _ _ _ _ _ _ _ _ _ _ => rfl
      have n9 : ∀ (a b c d e f g h i j k : IV), nth [a, b, c, d, e, f, g, h, i, j, k] 9 = j := fun _ _ _ _ _ _ _ _ _ _ _ => rfl
      have n10 : ∀ (a b c d e f g h i j k : IV), nth [a, b, c, d, e, f, g, h, i, j, k] 10 = k := fun _ _ _ _ _ _ _ _ _ _ _ => rfl
      simp only [n8, n9, n10, nth_zero, nth_one, nth_two, nth_three, nth_four, nth_five, nth_six, nth_seven, ibin_lss, Int.ofNat_lt, hi, decide_true, icond_true, Option.bind_some, at_Mv hx, ha, ibin_neq, icond_dec, ibin_succ (show i < 2 ^ 62 by omega)]
      by_cases h0 : (addF r' m).2.2 = 0 <;> simp [h0])
    (fun r' => by
      have n8 : ∀ (a b c d e f g h i j k : IV), nth [a, b, c, d, e, f, g, h, i, j, k] 8 = i := fun _ _ _ _ _ _ _ _ _ _ _ => rfl
      have n9 : ∀ (a b c d e f g h i j k : IV), nth [a, b, c, d, e, f, g, h, i, j, k] 9 = j := fun _ _ _ _ _ _ _ _ _ _ _ => rfl
      have n10 : ∀ (a b c d e f g h i j k : IV), nth [a, b, c, d, e, f, g, h, i, j, k] 10 = k := fun _ _ _ _ _ _ _ _ _ _ _ => rfl
      unfold floor_Merge_l3 merge_enc
      simp only [n8, n9, n10, nth_zero, nth_one, nth_two, nth_three, nth_four, nth_five, nth_six, nth_seven, ibin_lss, Int.lt_irrefl, decide_false, icond_false, Option.bind_some])
    l.length 0 rounds r (by omega) (by have := rounds_eq; omega) (h.mono (by omega)) ho
  simp only [List.drop_zero] at this
  have e : merge_enc (.lst []) (.int .i64 0) (.int .i64 0) (.lst []) (.lst []) 0 r = [.lst [], .int .i64 0, .int .i64 0, .lst [], .lst [], eRws r.base, .int .i64 r.fc, .int .i64 r.fr, eMvs r.log, eMarks r.mks, .int .i64 0] := rfl
  rw [e] at this
  rw [this]
  by_cases h0 : (mergeF r r l).2 = 0
  · simp only [h0, if_true, Option.bind_some, sel_zero]
    rfl
  · have he := mergeF_err l r h0
    simp only [h0, if_false, Option.bind_some, sel_one, nth_zero, nth_one, nth_two, nth_three, nth_four, nth_five, he]
theorem ref18_Merge_eq {r : Rep} {l : List Mv} (h : SmF 200 r) (ho : OKF r) (hl : l.length ≤ 100) (hm : ∀ m ∈ l, OKm m) : ref18_Merge_s (eRws r.base) (.int .i64 r.fc) (.int .i64 r.fr) (eMvs r.log) (eMarks r.mks) (eMvs l) =
    some [eRws (mergeF r r l).1.base, .int .i64 (mergeF r r l).1.fc, .int .i64 (mergeF r r l).1.fr, eMvs (mergeF r r l).1.log, eMarks (mergeF r r l).1.mks, .int .i64 (mergeF r r l).2] := by
  unfold ref18_Merge_s
  have := merge_loop (f := ref18_Merge_l3 (eMvs l) (eRws r.base) (.int .i64 r.fc) (.int .i64 r.fr) (eMvs r.log) (eMarks r.mks)) (l := l) (r0 := r) (v0 := .lst []) (v1 := .int .i64 0) (v2 := .int .i64 0) (v3 := .lst []) (v4 := .lst []) hl hm
    (fun i m r' hx hS hO => by
      have hi : i < l.length := (List.getElem?_eq_some_iff.1 hx).1
      have ha := ref18_Add_eq hS hO (hm m (List.mem_of_getElem? hx))
      unfold ref18_Merge_l3 merge_enc
      have n8 : ∀ (a b c d e f g h i j k : IV), nth [a, b, c, d, e, f, g, h, i, j, k] 8 = i := fun _ _ _ _ _ _ _ _ _ _ _ => rfl
      have n9 : ∀ (a b c d e f g h i j k : IV), nth [a, b, c, d, e, f, g, h, i, j, k] 9 = j := fun _ _ _ _ _ _ _ _ _ _ _ => rfl
      have n10 : ∀ (a b c d e f g h i j k : IV), nth [a, b, c, d, e, f, g, h, i, j, k] 10 = k := fun _ _ _ _ _ _ _ _ _ _ _ => rfl
      simp only [ilenL_lst, List.length_map, n8, n9, n10, nth_zero, nth_one, nth_two, nth_three, nth_four, nth_five, nth_six, nth_seven, ibin_lss, Int.ofNat_lt, hi, decide_true, icond_true, Option.bind_some, at_Mv hx, ha, ibin_neq, icond_dec, ibin_succ (show i < 2 ^ 62 by omega)]
      by_cases h0 : (addF r' m).2.2 = 0 <;> simp [h0])
    (fun r' => by
      have n8 : ∀ (a b c d e f g h i j k : IV), nth [a, b, c, d, e, f, g, h, i, j, k] 8 = i := fun _ _ _ _ _ _ _ _ _ _ _ => rfl
      have n9 : ∀ (a b c d e f g h i j k : IV), nth [a, b, c, d, e, f, g, h, i, j, k] 9 = j := fun _ _ _ _ _ _ _ _ _ _ _ => rfl
      have n10 : ∀ (a b c d e f g h i j k : IV), nth [a, b, c, d, e, f, g, h, i, j, k] 10 = k := fun _ _ _ _ _ _ _ _ _ _ _ => rfl
      unfold ref18_Merge_l3 merge_enc
      simp only [ilenL_lst, List.length_map, n8, n9, n10, nth_zero, nth_one, nth_two, nth_three, nth_four, nth_five, nth_six, nth_seven, ibin_lss, Int.lt_irrefl, decide_false, icond_false, Option.bind_some])
    l.length 0 rounds r (by omega) (by have := rounds_eq; omega) (h.mono (by omega)) ho
  simp only [List.drop_zero] at this
  have e : merge_enc (.lst []) (.int .i64 0) (.int .i64 0) (.lst []) (.lst []) 0 r = [.lst [], .int .i64 0, .int .i64 0, .lst [], .lst [], eRws r.base, .int .i64 r.fc, .int .i64 r.fr, eMvs r.log, eMarks r.mks, .int .i64 0] := rfl
  rw [e] at this
  rw [this]
  by_cases h0 : (mergeF r r l).2 = 0
  · simp only [h0, if_true, Option.bind_some, sel_zero]
    rfl
  · have he := mergeF_err l r h0
    simp only [h0, if_false, Option.bind_some, sel_one, nth_zero, nth_one, nth_two, nth_three, nth_four, nth_five, he]
theorem mergeF_ok {r0 : Rep} {n : Nat} (h0 : OKF r0) : ∀ (l : List Mv) (r : Rep), (∀ m ∈ l, OKm m) → OKF r → OKF (mergeF r0 r l).1
  | [], r, _, h => h
  | m :: l, r, hm, h => by
    unfold mergeF
    split
    · exact mergeF_ok (n := n) h0 l _ (fun x hx => hm x (List.mem_cons_of_mem _ hx)) (h.add (hm m List.mem_cons_self))
    · exact h0
theorem mergeF_sm {r0 : Rep} {k : Nat} (h0 : SmF k r0) : ∀ (l : List Mv) (n : Nat) (r : Rep), SmF n r → n + l.length ≤ k → SmF k (mergeF r0 r l).1
  | [], n, r, h, hk => h.mono (by simpa using hk)
  | m :: l, n, r, h, hk => by
    unfold mergeF
    simp only [List.length_cons] at hk
    split
    · exact mergeF_sm h0 l (n + 1) _ (h.add m) (by omega)
    · exact h0
set_option maxHeartbeats 1000000 in
theorem law18_FloorMerges_true (r : Rep) (l : List Mv) (hr : OKF r) (hl : ∀ m ∈ l, OKm m) :
    law18_FloorMerges_s (eRws r.base) (.int .i64 r.fc) (.int .i64 r.fr) (eMvs r.log) (eMarks r.mks) (eMvs l) = some [.bool true] := by
  have hf : ref13_Few_s (eMvs l) (.int .i64 20) = some [.bool (fewV l 20)] := ref13_Few_eq (n := 20) (by decide)
  unfold law18_FloorMerges_s
  simp only [ref18_Few_eq, hf, law18_live_eq, Option.bind_some, nth_zero, iun_not, icond_bool]
  by_cases h1 : fewF r = true
  · by_cases h2 : fewV l 20 = true
    · have s := fewF_sm h1
      have b := fewV_len h2
      have f1 := floor_Merge_eq (l := l) (s.mono (by omega)) hr (by omega) hl
      have f2 := ref18_Merge_eq (l := l) (s.mono (by omega)) hr (by omega) hl
      have hO := mergeF_ok (n := 0) hr l r hl hr
      have hS : SmF 2000 (mergeF r r l).1 := mergeF_sm (s.mono (by omega)) l 60 r s (by omega)
      have f3 := ref18_Same_eq hS hO hO
      simp only [sameF_refl] at f3
      simp only [h1, h2, Bool.not_true, Bool.false_eq_true, if_false, Option.bind_some, nth_zero, nth_one, nth_two, nth_three, nth_four, nth_five, icond_false, icond_true, f1, f2, f3, ibin_eql, decide_true, law18_live_eq, scal_bool, scal_nil, Option.map_some]
    · simp [h1, h2]
  · simp [h1]
end Go.AM

/- FloorMay, FloorTwice, plainly. -/
set_option linter.unusedVariables false
set_option linter.unusedSimpArgs false
namespace Go.AM

theorem addF_bad {r : Rep} {m : Mv} (h : (addF r m).2.2 ≠ 0) : (addF r m).2.1 = false ∧ (addF r m).1 = r := by
  unfold addF at h ⊢
  split
  · rename_i h1
    rw [if_pos h1] at h
    split
    · rename_i h2
      rw [if_pos h2] at h
      split
      · rename_i h3; rw [if_pos h3] at h; exact absurd rfl h
      · exact ⟨rfl, rfl⟩
    · exact ⟨rfl, rfl⟩
  · exact ⟨rfl, rfl⟩
theorem addF_may {r : Rep} (h : MayF r) (hs : SmF 700 r) (m : Mv) : MayF (addF r m).1 := by
  have h1 := hs.base
  have h2 := hs.log
  unfold addF
  split
  · rename_i h1
    simp only [Bool.and_eq_true] at h1
    split
    · rename_i h2
      split
      · exact h.add h1.2 h2 (by omega) (by omega)
      · exact h
    · exact h
  · exact h
theorem addF_err {r : Rep} (h : MayF r) (m : Mv) : (addF r m).2.2 = if oneV m = true then (if befB r.fc r.fr m.c m.r = true then 0 else 9) else 1 := by
  unfold addF
  rw [mayF_iff.2 h, Bool.true_and]
  cases oneV m <;> cases befB r.fc r.fr m.c m.r <;> cases newV r.log m <;> rfl
theorem pruneF_bad {r : Rep} {c t : Int} (h : (pruneF r c t).2 ≠ 0) : (pruneF r c t).1 = r := by
  unfold pruneF at h ⊢
  split
  · rename_i h1
    rw [if_pos h1] at h
    split
    · rename_i h2; rw [if_pos h2] at h; exact absurd rfl h
    · rfl
  · rfl
theorem pruneF_may {r : Rep} (h : MayF r) (hs : SmF 700 r) (c t : Int) : MayF (pruneF r c t).1 := by
  have h1 := hs.base
  have h2 := hs.log
  unfold pruneF
  split
  · rename_i h1
    simp only [Bool.and_eq_true] at h1
    split
    · exact h.prune h1.2 (by omega) (by omega)
    · exact h
  · exact h
theorem pruneF_err {r : Rep} (h : MayF r) (c t : Int) : (pruneF r c t).2 = if knownB r.mks c t = true then 0 else 1 := by
  unfold pruneF
  rw [mayF_iff.2 h, Bool.true_and]
  cases knownB r.mks c t <;> cases befB r.fc r.fr c t <;> rfl
theorem pruneF_mks (r : Rep) (c t : Int) : (pruneF r c t).1.mks = r.mks := by
  unfold pruneF
  split
  · split <;> rfl
  · rfl
theorem addF_get {r : Rep} (m : Mv) (x : Int) : getM r.mks x ≤ getM (addF r m).1.mks x := by
  unfold addF
  split
  · split
    · split
      · dsimp only; rw [getM_raise]; split
        · rename_i e; rw [e]; omega
        · omega
      · exact Int.le_refl _
    · exact Int.le_refl _
  · exact Int.le_refl _
theorem insV_len_le (l : List Mv) (m : Mv) : l.length ≤ (insV l m).length := by
  unfold insV
  split
  · omega
  · have := atV_le l m; simp; omega
theorem addF_log (r : Rep) (m : Mv) : r.log.length ≤ (addF r m).1.log.length := by
  unfold addF
  split
  · split
    · split
      · exact insV_len_le _ _
      · exact Nat.le_refl _
    · exact Nat.le_refl _
  · exact Nat.le_refl _
theorem addF_floor (r : Rep) (m : Mv) : (addF r m).1.fc = r.fc ∧ (addF r m).1.fr = r.fr ∧ (addF r m).1.base = r.base := by
  unfold addF
  split
  · split
    · split <;> exact ⟨rfl, rfl, rfl⟩
    · exact ⟨rfl, rfl, rfl⟩
  · exact ⟨rfl, rfl, rfl⟩
theorem pruneF_floor (r : Rep) (c t : Int) : befB (pruneF r c t).1.fc (pruneF r c t).1.fr r.fc r.fr = false := by
  unfold pruneF
  split
  · split
    · rename_i h
      cases hh : befB c t r.fc r.fr with
      | false => rfl
      | true => rw [befB_iff] at h hh; omega
    · exact befB_irr _ _
  · exact befB_irr _ _
set_option maxHeartbeats 1000000 in
theorem law18_FloorMay_true (r : Rep) (m : Mv) (c t : Int) (hr : OKF r) (hm : OKm m) :
    law18_FloorMay_s (eRws r.base) (.int .i64 r.fc) (.int .i64 r.fr) (eMvs r.log) (eMarks r.mks) (.int .i64 m.c) (.int .i64 m.r) (.int .i64 m.par) (.int .i64 m.ch) (.str m.nm) (.flt .f64 m.rk) (.int .i64 c) (.int .i64 t) = some [.bool true] := by
  unfold law18_FloorMay_s
  simp only [ref18_Few_eq, law18_live_eq, Option.bind_some, nth_zero, iun_not, ilenS_str, ibin_gtr, icond_bool]
  by_cases h1 : fewF r = true
  · by_cases h3 : 100 < (m.nm.size : Int)
    · simp [h1, h3]
    · have s := fewF_sm h1
      simp only [h1, h3, decide_false, Bool.not_true, Bool.false_eq_true, if_false, ref18_May_eq (s.mono (show 60 ≤ 2000 by omega)) hr, Option.bind_some, nth_zero, iun_not]
      by_cases h2 : mayF r = true
      · have hM := mayF_iff.1 h2
        have sA := s.add m
        have oA := hr.add hm
        have f1 := floor_Add_eq (s.mono (by omega)) hr hm
        have hMa := addF_may hM (s.mono (by omega)) m
        have e1 := addF_err hM m
        have e2 := @addF_bad r m
        have e3 := addF_get (r := r) m
        have e4 := addF_log r m
        have e5 := addF_floor r m
        have e6 : (addF r m).2.2 = 0 → m.c ≤ getM (addF r m).1.mks m.r := by
          intro h0
          rw [e1] at h0
          have ho : oneV m = true := by
            cases ho : oneV m with
            | true => rfl
            | false => rw [ho] at h0; simp at h0
          have hb : befB r.fc r.fr m.c m.r = true := by
            cases hb : befB r.fc r.fr m.c m.r with
            | true => rfl
            | false => rw [ho, hb] at h0; simp at h0
          unfold addF
          rw [h2, ho, hb]
          cases hn : newV r.log m with
          | true => simp [getM_raise]; omega
          | false =>
            simp
            obtain ⟨x, hx, q1, q2⟩ := newV_false.1 hn
            have := hM.cover x hx
            rw [q1, q2] at this
            exact this
        generalize addF r m = A at *
        obtain ⟨a, fr, e⟩ := A
        simp only at *
        have f2 := floor_Prune_eq (sA.mono (by omega)) oA c t
        have hMp := pruneF_may hMa (sA.mono (by omega)) c t
        have sP := sA.prune c t
        have oP := oA.prune c t
        have p1 := @pruneF_bad a c t
        have p2 := pruneF_mks a c t
        have p3 := pruneF_floor a c t
        rw [e5.1, e5.2.1] at p3
        generalize pruneF a c t = P at *
        obtain ⟨p, pe⟩ := P
        simp only at *
        have f3 := floor_May_eq (sA.mono (show 60 + 1 ≤ 2000 by omega)) oA
        have f4 := floor_May_eq (sP.mono (by omega)) oP
        rw [mayF_iff.2 hMa] at f3
        rw [mayF_iff.2 hMp] at f4
        have f5 := ref18_Same_eq (a := a) (b := r) (sA.mono (by omega)) oA hr
        have f6 := ref18_Same_eq (a := p) (b := a) (sP.mono (by omega)) oP oA
        have q1 : e ≠ 0 → sameF a r = true := fun h => by rw [(e2 h).2]; exact sameF_refl r
        have q2 : pe ≠ 0 → sameF p a = true := fun h => by rw [p1 h]; exact sameF_refl a
        have f7 := marks_Get_eq (l := a.mks) (by have := sA.mks; omega) m.r
        have hbel : belowM r.mks p.mks = true := by
          rw [belowM_iff hM.marks hMp.marks.nonneg, p2]
          exact e3
        have f8 := marks_Below_eq (a := r.mks) (b := p.mks) (by have := s.mks; omega) (by have := sP.mks; omega)
        rw [hbel] at f8
        simp only [h2, Bool.not_true, Bool.false_eq_true, if_false, icond_false, icond_true, Option.bind_some, nth_zero, nth_one, nth_two, nth_three, nth_four, nth_five, nth_six, f1, f2, f3, f4, f5, f6, f7, f8, ibin_neq, ibin_eql, ibin_lss, icond_bool, ref13_One_eq, ref02_Before_eq, p3, iun_not, ibinB_neq, ilenL_lst, List.length_map, law18_live_eq]
        have g1 : ¬ ((a.log.length : Int) < (r.log.length : Int)) := by omega
        rw [e1] at q1 e2 e6 ⊢
        cases ho : oneV m with
        | false =>
          rw [ho] at q1 e2 e6
          have q1' := q1 (by simp)
          have e2' := (e2 (by simp)).1
          by_cases hp : pe = 0
          · simp [q1', e2', hp]
          · simp [q1', e2', hp, q2 hp]
        | true =>
          rw [ho] at q1 e2 e6
          cases hb : befB r.fc r.fr m.c m.r with
          | false =>
            rw [hb] at q1 e2 e6
            have q1' := q1 (by simp)
            have e2' := (e2 (by simp)).1
            by_cases hp : pe = 0
            · simp [q1', e2', hp]
            · simp [q1', e2', hp, q2 hp]
          | true =>
            rw [hb] at e6
            have e6' := e6 (by simp)
            have g2 : ¬ (getM a.mks m.r < m.c) := by omega
            by_cases hp : pe = 0
            · simp [hp, g1, g2]
            · simp [hp, q2 hp, g1, g2]
      · simp [h2]
  · simp [h1]

/-! ### Pruned twice -/
theorem sin_sin {l : List Mv} {c t d u : Int} (h : befB c t d u = true) : sinV (sinV l c t) d u = sinV l d u := by
  unfold sinV
  rw [List.filter_filter]
  apply List.filter_congr
  intro x _
  cases hb : befB d u x.c x.r with
  | false => simp
  | true => simp [befB_trans h hb]
/-- Those that are not behind a time, ahead of those that are. -/
def earV (l : List Mv) (c t : Int) : List Mv := l.take (l.length - (sinV l c t).length)
theorem ear_sin {l : List Mv} (h : SortedV l) (c t : Int) : earV l c t ++ sinV l c t = l := by
  have := (since_drop h c t).1
  unfold earV
  conv => lhs; rhs; rw [this]
  exact List.take_append_drop _ _
theorem ear_filter {l : List Mv} (h : SortedV l) (c t : Int) : earV l c t = l.filter fun m => !befB c t m.c m.r := by
  have h1 : ∀ x ∈ earV l c t, befB c t x.c x.r = false := by
    intro x hx
    unfold earV at hx
    obtain ⟨i, hi, rfl⟩ := List.mem_iff_getElem.1 hx
    simp only [List.length_take] at hi
    have h2 := (since_drop h c t).2 i l[i] (List.getElem?_eq_getElem (by omega))
    simp only [List.getElem_take]
    rw [h2]
    simp; omega
  have h2 : ∀ x ∈ sinV l c t, befB c t x.c x.r = true := fun x hx => (sinV_mem.1 hx).2
  conv => rhs; rw [← ear_sin h c t]
  rw [List.filter_append, List.filter_eq_self.2 (fun x hx => by simp [h1 x hx]), List.filter_eq_nil_iff.2 (fun x hx => by simp [h2 x hx]), List.append_nil]
theorem ear_ear {l : List Mv} (hs : SortedV l) {c t d u : Int} (h : befB c t d u = true) : earV l c t ++ earV (sinV l c t) d u = earV l d u := by
  have hs2 : SortedV (sinV l c t) := hs.sublist List.filter_sublist
  have e1 := ear_sin hs c t
  have e2 := ear_sin hs2 d u
  have e3 := ear_sin hs d u
  rw [sin_sin h] at e2
  have : (earV l c t ++ earV (sinV l c t) d u) ++ sinV l d u = earV l d u ++ sinV l d u := by
    rw [List.append_assoc, e2, e1, e3]
  exact List.append_cancel_right this
theorem pruneF_ok {r : Rep} (h : MayF r) {c t : Int} (hk : knownB r.mks c t = true) : pruneF r c t = if befB r.fc r.fr c t = true then (⟨allV r.base (earV r.log c t), c, t, sinV r.log c t, r.mks⟩, 0) else (r, 0) := by
  unfold pruneF earV
  rw [mayF_iff.2 h, hk]
  rfl
theorem prune_prune {r : Rep} (h : MayF r) (hs : SmF 300 r) {c t d u : Int} (h1 : knownB r.mks c t = true) (h2 : knownB r.mks d u = true) (hb : befB c t d u = true) : (pruneF (pruneF r c t).1 d u).1 = (pruneF r d u).1 := by
  have hM := pruneF_may h (hs.mono (by omega)) c t
  rw [pruneF_ok h h1] at hM ⊢
  rw [pruneF_ok h h2]
  by_cases h3 : befB r.fc r.fr c t = true
  · rw [if_pos h3] at hM ⊢
    rw [pruneF_ok hM h2, if_pos hb, if_pos (befB_trans h3 hb)]
    have hsr := (mayV_parts.1 h.moves).2.2
    simp only
    rw [← allV_append, ear_ear hsr hb, sin_sin hb]
  · rw [if_neg h3] at hM ⊢
    simp only
    rw [pruneF_ok h h2]
theorem prune_stay {r : Rep} (h : MayF r) {c t : Int} (hk : knownB r.mks c t = true) (hb : befB r.fc r.fr c t = false) : pruneF r c t = (r, 0) := by
  rw [pruneF_ok h hk, hb]; rfl
theorem prune_time {r : Rep} (h : MayF r) {c t : Int} (hk : knownB r.mks c t = true) : befB (pruneF r c t).1.fc (pruneF r c t).1.fr c t = false := by
  rw [pruneF_ok h hk]
  by_cases h3 : befB r.fc r.fr c t = true
  · rw [if_pos h3]; exact befB_irr _ _
  · rw [if_neg h3]; simpa using h3
theorem befB_tri {a b c d : Int} (h1 : befB a b c d = false) (h2 : befB c d a b = false) : a = c ∧ b = d := by
  cases e : befB a b c d with
  | true => rw [e] at h1; cases h1
  | false =>
    have n1 : ¬ (a < c ∨ a = c ∧ b < d) := by rw [← befB_iff]; simp [e]
    have n2 : ¬ (c < a ∨ c = a ∧ d < b) := by rw [← befB_iff]; simp [h2]
    omega
theorem prune_later {r : Rep} (h : MayF r) {c t d u : Int} (hk : knownB r.mks c t = true) (hb : befB c t d u = false) : befB (pruneF r c t).1.fc (pruneF r c t).1.fr d u = false := by
  have h1 := prune_time h hk
  cases e : befB (pruneF r c t).1.fc (pruneF r c t).1.fr d u with
  | false => rfl
  | true =>
    have n1 : ¬ ((pruneF r c t).1.fc < c ∨ (pruneF r c t).1.fc = c ∧ (pruneF r c t).1.fr < t) := by rw [← befB_iff]; simp [h1]
    have n2 : ¬ (c < d ∨ c = d ∧ t < u) := by rw [← befB_iff]; simp [hb]
    rw [befB_iff] at e
    omega
set_option maxHeartbeats 1000000 in
theorem law18_FloorTwice_true (r : Rep) (c t d u : Int) (hr : OKF r) :
    law18_FloorTwice_s (eRws r.base) (.int .i64 r.fc) (.int .i64 r.fr) (eMvs r.log) (eMarks r.mks) (.int .i64 c) (.int .i64 t) (.int .i64 d) (.int .i64 u) = some [.bool true] := by
  unfold law18_FloorTwice_s
  simp only [ref18_Few_eq, law18_live_eq, Option.bind_some, nth_zero, iun_not, icond_bool]
  by_cases h1 : fewF r = true
  · have s := fewF_sm h1
    simp only [h1, Bool.not_true, Bool.false_eq_true, if_false, ref18_May_eq (s.mono (show 60 ≤ 2000 by omega)) hr, Option.bind_some, nth_zero, iun_not]
    by_cases h2 : mayF r = true
    · have hM := mayF_iff.1 h2
      have sA := s.prune c t
      have oA := hr.prune c t
      have mA := pruneF_may hM (s.mono (by omega)) c t
      have sB := sA.prune d u
      have oB := oA.prune d u
      have mB := pruneF_may mA (sA.mono (by omega)) d u
      have sC := s.prune d u
      have oC := hr.prune d u
      have mC := pruneF_may hM (s.mono (by omega)) d u
      have f1 := floor_Prune_eq (s.mono (show 60 ≤ 2000 by omega)) hr c t
      have f2 := floor_Prune_eq (sA.mono (show 60 + 60 ≤ 2000 by omega)) oA d u
      have f3 := floor_Prune_eq (s.mono (show 60 ≤ 2000 by omega)) hr d u
      have f4 := floor_Prune_eq (sB.mono (show 60 + 60 + (60 + 60) ≤ 2000 by omega)) oB d u
      have f5 := floor_Prune_eq (sC.mono (show 60 + 60 ≤ 2000 by omega)) oC c t
      have e1 := pruneF_err hM c t
      have e2 := pruneF_err mA d u
      have e3 := pruneF_err hM d u
      rw [pruneF_mks] at e2
      simp only [h2, f1, f2, f3, f4, f5, e1, e2, e3, Bool.not_true, Bool.false_eq_true, if_false, icond_false, icond_true, Option.bind_some, nth_zero, nth_one, nth_two, nth_three, nth_four, nth_five, ibin_neq, ibin_eql, icond_bool, law18_live_eq, ref02_Before_eq]
      by_cases k1 : knownB r.mks c t = true
      · by_cases k2 : knownB r.mks d u = true
        · have kB : knownB (pruneF (pruneF r c t).1 d u).1.mks d u = true := by rw [pruneF_mks, pruneF_mks]; exact k2
          have kA : knownB (pruneF r c t).1.mks d u = true := by rw [pruneF_mks]; exact k2
          have kC : knownB (pruneF r d u).1.mks c t = true := by rw [pruneF_mks]; exact k1
          have again := prune_stay mB kB (prune_time mA kA)
          have g1 := ref18_Same_eq (a := (pruneF (pruneF r c t).1 d u).1) (b := (pruneF (pruneF r c t).1 d u).1) (sB.mono (by omega)) oB oB
          simp only [sameF_refl] at g1
          have e5 := pruneF_err mC c t
          rw [pruneF_mks] at e5
          simp only [k1, k2, again, e5, if_true, ne_eq, not_true_eq_false, decide_false, Bool.false_eq_true, if_false, g1, Option.bind_some, nth_zero, iun_not, Bool.not_true, icond_false]
          by_cases hb : befB c t d u = true
          · have hPP := prune_prune hM (s.mono (by omega)) k1 k2 hb
            have g2 := ref18_Same_eq (a := (pruneF (pruneF r c t).1 d u).1) (b := (pruneF r d u).1) (sB.mono (by omega)) oB oC
            rw [hPP, sameF_refl] at g2
            rw [hPP]
            simp [hb, g2]
          · have hb' : befB c t d u = false := by simpa using hb
            have hBA : (pruneF (pruneF r c t).1 d u).1 = (pruneF r c t).1 := by rw [prune_stay mA kA (prune_later hM k1 hb')]
            have hCA : (pruneF (pruneF r d u).1 c t).1 = (pruneF r c t).1 := by
              by_cases hd : befB d u c t = true
              · exact prune_prune hM (s.mono (by omega)) k2 k1 hd
              · obtain ⟨rfl, rfl⟩ := befB_tri hb' (by simpa using hd)
                rw [prune_stay mC kC (prune_time hM k1)]
            have g2 := ref18_Same_eq (a := (pruneF r c t).1) (b := (pruneF r c t).1) (sA.mono (by omega)) oA oA
            simp only [sameF_refl] at g2
            rw [hBA, hCA]
            simp [hb', g2]
        · simp [k1, k2]
      · by_cases k2 : knownB r.mks d u = true
        · simp [k1, k2]
        · simp [k1, k2]
    · simp [h2]
  · simp [h1]
end Go.AM

/- Replicas as arguments. -/
set_option linter.unusedVariables false
set_option linter.unusedSimpArgs false
namespace Go.AM
theorem repB_inv {cs : List IV} (h : Typed [.slc shRw, .int .i64, .int .i64, .slc shMv, .slc shMark] cs) : ∃ r : Rep, cs = [eRws r.base, .int .i64 r.fc, .int .i64 r.fr, eMvs r.log, eMarks r.mks] ∧ OKF r := by
  obtain ⟨hl, hs⟩ := h
  match cs, hl with
  | [c0, c1, c2, c3, c4], _ =>
    obtain ⟨b, rfl, hb⟩ := (hs 0 _ c0 rfl rfl).list_invP Rw_inv
    obtain ⟨x, rfl, hx⟩ := i64_inv (hs 1 _ c1 rfl rfl)
    obtain ⟨y, rfl, hy⟩ := i64_inv (hs 2 _ c2 rfl rfl)
    obtain ⟨l, rfl, hl⟩ := (hs 3 _ c3 rfl rfl).list_invP Mv_invB
    obtain ⟨k, rfl⟩ := (hs 4 _ c4 rfl rfl).list_inv Mark_inv
    exact ⟨⟨b, x, y, l, k⟩, rfl, hb, hl⟩
end Go.AM

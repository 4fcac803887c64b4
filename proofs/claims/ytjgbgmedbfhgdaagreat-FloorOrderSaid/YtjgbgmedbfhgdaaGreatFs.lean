/- FloorKeeps, FloorMarks, plainly. -/
import Derived.Test.YtjgbgmedbfhgdaaGreatFr
set_option linter.unusedVariables false
set_option linter.unusedSimpArgs false
namespace Go.AM

theorem insR_app {m : Mv} : ∀ {E : List Mv}, (∀ x ∈ E, befV m x = false) → ∀ L : List Mv, insR m (E ++ L) = E ++ insR m L
  | [], _, L => rfl
  | x :: E, h, L => by
    have hx := h x List.mem_cons_self
    simp only [List.cons_append, insR, hx, Bool.false_eq_true, if_false]
    rw [insR_app fun y hy => h y (List.mem_cons_of_mem _ hy)]
theorem any_app {E L : List Mv} {m : Mv} (h : ∀ x ∈ E, ¬ (x.c = m.c ∧ x.r = m.r)) : (E ++ L).any (tmB m.c m.r) = L.any (tmB m.c m.r) := by
  rw [List.any_append]
  have : E.any (tmB m.c m.r) = false := by
    cases he : E.any (tmB m.c m.r) with
    | false => rfl
    | true => obtain ⟨x, hx, h1⟩ := any_tm.1 he; exact absurd h1 (h x hx)
  rw [this, Bool.false_or]
/-- Two replicas, the one pruned. -/
structure TwoF (E : List Mv) (a b : Rep) : Prop where
  log : a.log = E ++ b.log
  base : b.base = allV a.base E
  mks : a.mks = b.mks
  may1 : MayF a
  may2 : MayF b
  early : ∀ x ∈ E, befB b.fc b.fr x.c x.r = false
  floor : befB b.fc b.fr a.fc a.fr = false
theorem TwoF.tree {E : List Mv} {a b : Rep} (h : TwoF E a b) : allV a.base a.log = allV b.base b.log := by
  rw [h.log, h.base, allV_append]
theorem TwoF.bef {E : List Mv} {a b : Rep} (h : TwoF E a b) {m : Mv} (hb : befB b.fc b.fr m.c m.r = true) : befB a.fc a.fr m.c m.r = true := by
  have h1 := h.floor
  have n1 : ¬ (b.fc < a.fc ∨ b.fc = a.fc ∧ b.fr < a.fr) := by rw [← befB_iff]; simp [h1]
  rw [befB_iff] at hb ⊢
  omega
theorem TwoF.add {E : List Mv} {a b : Rep} (h : TwoF E a b) (sa : SmF 700 a) (sb : SmF 700 b) {m : Mv} (hb : befB b.fc b.fr m.c m.r = true) : TwoF E (addF a m).1 (addF b m).1 ∧ (addF a m).2 = (addF b m).2 := by
  have ha := h.bef hb
  have ma := addF_may h.may1 sa m
  have mb := addF_may h.may2 sb m
  have late : ∀ x ∈ E, ¬ (x.c = m.c ∧ x.r = m.r) ∧ befV m x = false := fun x hx => by
    have h1 := h.early x hx
    have n1 : ¬ (b.fc < x.c ∨ b.fc = x.c ∧ b.fr < x.r) := by rw [← befB_iff]; simp [h1]
    rw [befB_iff] at hb
    refine ⟨by omega, ?_⟩
    cases hm : befV m x with
    | false => rfl
    | true => rw [befV_iff] at hm; omega
  have hany : a.log.any (tmB m.c m.r) = b.log.any (tmB m.c m.r) := by rw [h.log]; exact any_app fun x hx => (late x hx).1
  have hnew : newV a.log m = newV b.log m := by unfold newV; rw [hany]
  have hins : newV b.log m = true → insV a.log m = E ++ insV b.log m := fun hn => by
    have hn2 : ¬ b.log.any (tmB m.c m.r) = true := by unfold newV at hn; simpa using hn
    rw [insV_R, insV_R, hany, if_neg hn2, if_neg hn2, h.log]
    exact insR_app (fun x hx => (late x hx).2) _
  unfold addF at ma mb ⊢
  simp only [mayF_iff.2 h.may1, mayF_iff.2 h.may2, ha, hb, hnew, Bool.true_and, if_true] at ma mb ⊢
  by_cases ho : oneV m = true
  · simp only [ho, if_true] at ma mb ⊢
    by_cases hn : newV b.log m = true
    · simp only [hnew, hn, if_true] at ma mb ⊢
      exact ⟨⟨hins hn, h.base, by simp only [h.mks], ma, mb, h.early, h.floor⟩, trivial⟩
    · simp only [hn, if_false, Bool.false_eq_true] at ma mb ⊢
      exact ⟨h, trivial⟩
  · simp only [ho, if_false, Bool.false_eq_true] at ma mb ⊢
    exact ⟨h, trivial⟩
theorem prune_two {r : Rep} (h : MayF r) (hs : SmF 300 r) {c t : Int} (hk : knownB r.mks c t = true) : ∃ E, TwoF E r (pruneF r c t).1 := by
  have hM := pruneF_may h (hs.mono (by omega)) c t
  have hsr := (mayV_parts.1 h.moves).2.2
  have hf := pruneF_floor r c t
  rw [pruneF_ok h hk] at hM hf ⊢
  by_cases hb : befB r.fc r.fr c t = true
  · rw [if_pos hb] at hM hf ⊢
    refine ⟨earV r.log c t, (ear_sin hsr c t).symm, rfl, rfl, h, hM, fun x hx => ?_, hf⟩
    rw [ear_filter hsr] at hx
    simpa using (List.mem_filter.1 hx).2
  · rw [if_neg hb] at hM hf ⊢
    exact ⟨[], rfl, rfl, rfl, h, h, by simp, hf⟩
theorem prune_tree {r : Rep} (h : MayF r) (c t : Int) : allV (pruneF r c t).1.base (pruneF r c t).1.log = allV r.base r.log := by
  by_cases hk : knownB r.mks c t = true
  · rw [pruneF_ok h hk]
    by_cases hb : befB r.fc r.fr c t = true
    · rw [if_pos hb]
      simp only
      rw [← allV_append, ear_sin (mayV_parts.1 h.moves).2.2]
    · rw [if_neg hb]
  · have : (pruneF r c t).2 ≠ 0 := by rw [pruneF_err h, if_neg hk]; decide
    rw [pruneF_bad this]
theorem n8 (a b c d e f g h i : IV) (l : List IV) : nth (a :: b :: c :: d :: e :: f :: g :: h :: i :: l) 8 = i := rfl
theorem n9 (a b c d e f g h i j : IV) (l : List IV) : nth (a :: b :: c :: d :: e :: f :: g :: h :: i :: j :: l) 9 = j := rfl
theorem n10 (a b c d e f g h i j k : IV) (l : List IV) : nth (a :: b :: c :: d :: e :: f :: g :: h :: i :: j :: k :: l) 10 = k := rfl
theorem ildN_two {l : List Mv} {i : Nat} {x : Mv} (hx : l[i]? = some x) : ildN (eMvs l) i 0 2 = some [.int .i64 x.c, .int .i64 x.r] := by
  rw [ildN_pre (enc := eMv) (n := 2) hx (by simp [eMv])]; rfl
set_option maxHeartbeats 2000000 in
theorem law18_FloorKeeps_true (r : Rep) (c t : Int) (l : List Mv) (hr : OKF r) (hl : ∀ m ∈ l, OKm m) :
    law18_FloorKeeps_s (eRws r.base) (.int .i64 r.fc) (.int .i64 r.fr) (eMvs r.log) (eMarks r.mks) (.int .i64 c) (.int .i64 t) (eMvs l) = some [.bool true] := by
  have hf : ref13_Few_s (eMvs l) (.int .i64 20) = some [.bool (fewV l 20)] := ref13_Few_eq (n := 20) (by decide)
  unfold law18_FloorKeeps_s
  simp only [ref18_Few_eq, hf, law18_live_eq, Option.bind_some, nth_zero, iun_not, icond_bool]
  by_cases h1 : fewF r = true
  · by_cases h3 : fewV l 20 = true
    · have s := fewF_sm h1
      have b20 := fewV_len h3
      simp only [h1, h3, Bool.not_true, Bool.false_eq_true, if_false, ref18_May_eq (s.mono (show 60 ≤ 2000 by omega)) hr, Option.bind_some, nth_zero, iun_not]
      by_cases h2 : mayF r = true
      · have hM := mayF_iff.1 h2
        have sP := s.prune c t
        have oP := hr.prune c t
        have f1 := floor_Prune_eq (s.mono (show 60 ≤ 2000 by omega)) hr c t
        have f2 := floor_Tree_eq (r := (pruneF r c t).1) (sP.mono (by omega)) oP (.int .i64 (pruneF r c t).1.fc) (.int .i64 (pruneF r c t).1.fr) (eMarks (pruneF r c t).1.mks)
        have f3 := floor_Tree_eq (s.mono (show 60 ≤ 2000 by omega)) hr (.int .i64 r.fc) (.int .i64 r.fr) (eMarks r.mks)
        have hA := OKl.allV hr.base hr.log
        have f4 := ref12_Same_eq (a := allV r.base r.log) (b := allV r.base r.log) (by have := allV_length r.log r.base; have := s.base; have := s.log; omega) hA.fl hA.fl
        simp only [sameR_refl] at f4
        rw [prune_tree hM] at f2
        have f5 := ref17_Same_eq (a := (pruneF r c t).1.mks) (b := r.mks) (by have := sP.mks; omega)
        have hmk : decide ((pruneF r c t).1.mks = r.mks) = true := by rw [pruneF_mks]; simp
        rw [hmk] at f5
        have f6 := ref18_Same_eq (a := (pruneF r c t).1) (b := r) (sP.mono (by omega)) oP hr
        simp only [h2, Bool.not_true, Bool.false_eq_true, if_false, icond_false, icond_true, Option.bind_some, nth_zero, nth_one, nth_two, nth_three, nth_four, nth_five, f1, f2, f3, f4, f5, f6, iun_not, ibin_neq, icond_bool, law18_live_eq]
        by_cases he : (pruneF r c t).2 = 0
        · have hk : knownB r.mks c t = true := by
            cases hk : knownB r.mks c t with
            | true => rfl
            | false => rw [pruneF_err hM, hk] at he; simp at he
          obtain ⟨E, h0⟩ := prune_two hM (s.mono (by omega)) hk
          have hfl : ∀ a' b' : Rep, True := fun _ _ => trivial
          obtain ⟨p, hp⟩ : ∃ p, p = (pruneF r c t).1 := ⟨_, rfl⟩
          rw [← hp] at h0 sP oP
          have key := iter_or (f := law18_FloorKeeps_l11 (eMvs l) [eRws (pruneF r c t).1.base, .int .i64 (pruneF r c t).1.fc, .int .i64 (pruneF r c t).1.fr, eMvs (pruneF r c t).1.log, eMarks (pruneF r c t).1.mks, .int .i64 (pruneF r c t).2]) (n := l.length)
            (fun i vs => ∃ a b : Rep, vs = [eRws a.base, .int .i64 a.fc, .int .i64 a.fr, eMvs a.log, eMarks a.mks, eRws b.base, .int .i64 b.fc, .int .i64 b.fr, eMvs b.log, eMarks b.mks, .int .i64 (i : Int)] ∧ TwoF E a b ∧ SmF (120 + i) a ∧ SmF (120 + i) b ∧ OKF a ∧ OKF b ∧ b.fc = p.fc ∧ b.fr = p.fr)
            (fun q => ∃ a b : Rep, q = (0, [eRws a.base, .int .i64 a.fc, .int .i64 a.fr, eMvs a.log, eMarks a.mks, eRws b.base, .int .i64 b.fc, .int .i64 b.fr, eMvs b.log, eMarks b.mks]) ∧ a.mks = b.mks ∧ a.mks.length < 2 ^ 16)
            (by
              rintro i vs hi ⟨a, b, rfl, hT, sa, sb, oa, ob, q1, q2⟩
              obtain ⟨x, hx⟩ : ∃ x, l[i]? = some x := ⟨l[i], List.getElem?_eq_getElem hi⟩
              have hxm := hl x (List.mem_of_getElem? hx)
              have ga := floor_Add_eq (sa.mono (by omega)) oa hxm
              have gb := floor_Add_eq (sb.mono (by omega)) ob hxm
              have eb := addF_err hT.may2 x
              refine .inl ?_
              unfold law18_FloorKeeps_l11
              simp only [ilenL_lst, List.length_map, n8, n9, n10, nth_zero, nth_one, nth_two, nth_three, nth_four, nth_five, nth_six, nth_seven, ibin_lss, Int.ofNat_lt, hi, decide_true, icond_true, Option.bind_some, at_Mv hx, ildN_two hx, ref02_Before_eq, iun_not, icond_bool, ga, gb, ref13_One_eq, ibin_neq, ibinB_neq, ibin_succ (show i < 2 ^ 62 by omega), ← hp, ← q1, ← q2]
              by_cases hb : befB b.fc b.fr x.c x.r = true
              · obtain ⟨hT2, e12⟩ := hT.add (sa.mono (by omega)) (sb.mono (by omega)) hb
                have sa2 := sa.add x
                have sb2 := sb.add x
                have oa2 := oa.add hxm
                have ob2 := ob.add hxm
                have fb := addF_floor b x
                have t1 := floor_Tree_eq (r := (addF a x).1) (sa2.mono (by omega)) oa2 (.int .i64 (addF a x).1.fc) (.int .i64 (addF a x).1.fr) (eMarks (addF a x).1.mks)
                have t2 := floor_Tree_eq (r := (addF b x).1) (sb2.mono (by omega)) ob2 (.int .i64 (addF b x).1.fc) (.int .i64 (addF b x).1.fr) (eMarks (addF b x).1.mks)
                have hA2 := OKl.allV ob2.base ob2.log
                have t3 := ref12_Same_eq (a := allV (addF b x).1.base (addF b x).1.log) (b := allV (addF b x).1.base (addF b x).1.log) (by have := allV_length (addF b x).1.log (addF b x).1.base; have := sb2.base; have := sb2.log; omega) hA2.fl hA2.fl
                simp only [sameR_refl] at t3
                rw [hT2.tree] at t1
                refine ⟨_, ?_, (addF a x).1, (addF b x).1, rfl, hT2, sa2.mono (by omega), sb2.mono (by omega), oa2, ob2, by first | exact fb.1 | rw [fb.1, q1], by first | exact fb.2.1 | rw [fb.2.1, q2]⟩
                have e1 : (addF a x).2.1 = (addF b x).2.1 := by rw [e12]
                have e2 : (addF a x).2.2 = (addF b x).2.2 := by rw [e12]
                simp only [hb, Bool.not_true, Bool.false_eq_true, if_false, if_true, e1, e2, t1, t2, t3, bne_self_eq_false, beq_self_eq_true, ne_eq, not_true_eq_false, decide_false, Option.bind_some, nth_zero, icond_false, iun_not, icond_bool]
              · have hb' : befB b.fc b.fr x.c x.r = false := by simpa using hb
                refine ⟨_, ?_, a, b, rfl, hT, sa.mono (by omega), sb.mono (by omega), oa, ob, by first | rfl | exact q1, by first | rfl | exact q2⟩
                rw [hb'] at eb
                rw [eb]
                cases ho : oneV x <;> simp [hb'])
            (by
              rintro vs ⟨a, b, rfl, hT, sa, sb, oa, ob, q1, q2⟩
              refine ⟨0, [eRws a.base, .int .i64 a.fc, .int .i64 a.fr, eMvs a.log, eMarks a.mks, eRws b.base, .int .i64 b.fc, .int .i64 b.fr, eMvs b.log, eMarks b.mks], ?_, a, b, rfl, hT.mks, by have := sa.mks; omega⟩
              unfold law18_FloorKeeps_l11
              simp only [ilenL_lst, List.length_map, n8, n9, n10, nth_zero, nth_one, nth_two, nth_three, nth_four, nth_five, nth_six, nth_seven, ibin_lss, Int.lt_irrefl, decide_false, icond_false, Option.bind_some])
            l.length 0 rounds [eRws r.base, .int .i64 r.fc, .int .i64 r.fr, eMvs r.log, eMarks r.mks, eRws (pruneF r c t).1.base, .int .i64 (pruneF r c t).1.fc, .int .i64 (pruneF r c t).1.fr, eMvs (pruneF r c t).1.log, eMarks (pruneF r c t).1.mks, .int .i64 0] (by omega) (by have := rounds_eq; omega)
            ⟨r, p, by rw [hp]; rfl, h0, s.mono (by omega), sP.mono (by omega), hr, oP, rfl, rfl⟩
          obtain ⟨q, hq, a, b, rfl, hmm, hml⟩ := key
          rw [hq]
          have f7 := ref17_Same_eq (a := a.mks) (b := b.mks) hml
          have hmm2 : decide (a.mks = b.mks) = true := by rw [hmm]; simp
          rw [hmm2] at f7
          simp [he, sel, n9, f7]
        · have hbad := pruneF_bad he
          have : sameF (pruneF r c t).1 r = true := by rw [hbad]; exact sameF_refl r
          simp [he, this]
      · simp [h2]
    · simp [h1, h3]
  · simp [h1]

/-! ### Marks behind moves that came -/
theorem supV_snoc (x : Int) (l : List Mv) (m : Mv) (n : Int) : supV x (l ++ [m]) n = if x = m.r then max (supV x l n) m.c else supV x l n := by
  unfold supV; rw [List.foldl_append]; rfl
/-- What is told of moves that came. -/
structure CameF (r : Rep) (took : List Mv) (a : Rep) : Prop where
  may : MayF a
  mks : ∀ x, getM a.mks x = max (getM r.mks x) (supV x took 0)
  good : ∀ m ∈ took, oneV m = true
theorem CameF.add {r : Rep} {took : List Mv} {a : Rep} (h : CameF r took a) (sa : SmF 700 a) (m : Mv) : CameF r (if (addF a m).2.2 = 0 then took ++ [m] else took) (addF a m).1 := by
  have hM := addF_may h.may sa m
  by_cases h0 : (addF a m).2.2 = 0
  · rw [if_pos h0]
    have e := addF_err h.may m
    rw [h0] at e
    have ho : oneV m = true := by
      cases ho : oneV m with
      | true => rfl
      | false => rw [ho] at e; simp at e
    have hb : befB a.fc a.fr m.c m.r = true := by
      cases hb : befB a.fc a.fr m.c m.r with
      | true => rfl
      | false => rw [ho, hb] at e; simp at e
    refine ⟨hM, fun x => ?_, fun y hy => ?_⟩
    · rw [supV_snoc]
      unfold addF
      rw [mayF_iff.2 h.may, ho, hb]
      cases hn : newV a.log m with
      | true =>
        simp only [Bool.and_self, if_true]
        rw [getM_raise]
        by_cases hx : x = m.r
        · rw [if_pos hx, if_pos hx, ← hx, h.mks x]; omega
        · rw [if_neg hx, if_neg hx, h.mks x]
      | false =>
        simp only [Bool.and_self, if_true, Bool.false_eq_true, if_false]
        rw [h.mks x]
        by_cases hx : x = m.r
        · rw [if_pos hx]
          obtain ⟨y, hy, q1, q2⟩ := newV_false.1 hn
          have := h.may.cover y hy
          rw [q1, q2, ← hx, h.mks x] at this
          omega
        · rw [if_neg hx]
    · rcases List.mem_append.1 hy with hy | hy
      · exact h.good y hy
      · simp at hy; subst hy; exact ho
  · rw [if_neg h0]
    have := addF_bad h0
    rw [this.2]
    exact h
set_option maxHeartbeats 2000000 in
theorem law18_FloorMarks_true (r : Rep) (l : List Mv) (c t : Int) (hr : OKF r) (hl : ∀ m ∈ l, OKm m) :
    law18_FloorMarks_s (eRws r.base) (.int .i64 r.fc) (.int .i64 r.fr) (eMvs r.log) (eMarks r.mks) (eMvs l) (.int .i64 c) (.int .i64 t) = some [.bool true] := by
  have hf : ref13_Few_s (eMvs l) (.int .i64 20) = some [.bool (fewV l 20)] := ref13_Few_eq (n := 20) (by decide)
  unfold law18_FloorMarks_s
  simp only [ref18_Few_eq, hf, law18_live_eq, Option.bind_some, nth_zero, iun_not, icond_bool]
  by_cases h1 : fewF r = true
  · by_cases h3 : fewV l 20 = true
    · have s := fewF_sm h1
      have b20 := fewV_len h3
      simp only [h1, h3, Bool.not_true, Bool.false_eq_true, if_false, ref18_May_eq (s.mono (show 60 ≤ 2000 by omega)) hr, Option.bind_some, nth_zero, iun_not]
      by_cases h2 : mayF r = true
      · have hM := mayF_iff.1 h2
        have key := iter_or (f := law18_FloorMarks_l6 (eMvs l)) (n := l.length)
          (fun i vs => ∃ (took : List Mv) (a : Rep), vs = [eMvs took, eRws a.base, .int .i64 a.fc, .int .i64 a.fr, eMvs a.log, eMarks a.mks, .int .i64 (i : Int)] ∧ CameF r took a ∧ SmF (60 + i) a ∧ OKF a ∧ took.length ≤ i)
          (fun q => ∃ (took : List Mv) (a : Rep), q = (0, [eMvs took, eRws a.base, .int .i64 a.fc, .int .i64 a.fr, eMvs a.log, eMarks a.mks]) ∧ CameF r took a ∧ SmF 200 a ∧ OKF a ∧ took.length ≤ 20)
          (by
            rintro i vs hi ⟨took, a, rfl, hC, sa, oa, htl⟩
            obtain ⟨x, hx⟩ : ∃ x, l[i]? = some x := ⟨l[i], List.getElem?_eq_getElem hi⟩
            have hxm := hl x (List.mem_of_getElem? hx)
            have ga := floor_Add_eq (sa.mono (by omega)) oa hxm
            have ap : iapp 6 56 (eMvs took) (.lst [[.int .i64 x.c, .int .i64 x.r, .int .i64 x.par, .int .i64 x.ch, .str x.nm, .flt .f64 x.rk]]) = some (eMvs (took ++ [x])) := iapp_Mv (l := took) (k := [x]) (by omega) (by simp)
            have hC2 := hC.add (sa.mono (by omega)) x
            refine .inl ⟨_, ?_, (if (addF a x).2.2 = 0 then took ++ [x] else took), (addF a x).1, rfl, hC2, (sa.add x).mono (by omega), oa.add hxm, by
              split
              · simp only [List.length_append, List.length_singleton]; omega
              · omega⟩
            unfold law18_FloorMarks_l6
            simp only [ilenL_lst, List.length_map, nth_zero, nth_one, nth_two, nth_three, nth_four, nth_five, nth_six, ibin_lss, Int.ofNat_lt, hi, decide_true, icond_true, Option.bind_some, at_Mv hx, ga, ibin_eql, icond_dec, ap, ibin_succ (show i < 2 ^ 62 by omega)]
            by_cases h0 : (addF a x).2.2 = 0 <;> simp [h0])
          (by
            rintro vs ⟨took, a, rfl, hC, sa, oa, htl⟩
            refine ⟨0, [eMvs took, eRws a.base, .int .i64 a.fc, .int .i64 a.fr, eMvs a.log, eMarks a.mks], ?_, took, a, rfl, hC, sa.mono (by omega), oa, by omega⟩
            unfold law18_FloorMarks_l6
            simp)
          l.length 0 rounds [.lst [], eRws r.base, .int .i64 r.fc, .int .i64 r.fr, eMvs r.log, eMarks r.mks, .int .i64 0] (by omega) (by have := rounds_eq; omega)
          ⟨[], r, rfl, ⟨hM, fun x => by have := hM.marks.nonneg x; simp [supV]; omega, by simp⟩, s.mono (by omega), hr, by simp⟩
        obtain ⟨q, hq, took, a, rfl, hC, sa, oa, htl⟩ := key
        have f1 := floor_Prune_eq (sa.mono (show 200 ≤ 2000 by omega)) oa c t
        have f2 := marks_Of_eq (l := took) (by omega)
        have hol := ofM_length took
        have f3 := marks_Join_eq (a := r.mks) (b := ofM took) (by have := s.mks; omega) (by omega)
        have hof : MayP (ofM took) := foldM_may MayP.nil fun m hm => oneV_time (hC.good m hm)
        have hj : MayP (joinM r.mks (ofM took)) := hM.marks.join hof.ok
        have heq : a.mks = joinM r.mks (ofM took) := by
          refine hC.may.marks.ext hj fun x => ?_
          rw [getM_join hof hM.marks.nonneg, hC.mks, getM_of]
        have f4 := ref17_Same_eq (a := a.mks) (b := joinM r.mks (ofM took)) (by have := sa.mks; omega)
        have f5 := ref17_Same_eq (a := (pruneF a c t).1.mks) (b := joinM r.mks (ofM took)) (by rw [pruneF_mks]; have := sa.mks; omega)
        have d1 : decide (a.mks = joinM r.mks (ofM took)) = true := by simpa using heq
        have d2 : decide ((pruneF a c t).1.mks = joinM r.mks (ofM took)) = true := by rw [pruneF_mks]; exact d1
        rw [d1] at f4
        rw [d2] at f5
        simp [h2, hq, f1, f2, f3, f4, f5]
      · simp [h2]
    · simp [h1, h3]
  · simp [h1]
end Go.AM
/- FloorOrder, plainly. -/
set_option linter.unusedVariables false
set_option linter.unusedSimpArgs false
namespace Go.AM

/-- Moves that are all taken. -/
def takenB (r : Rep) (m : Mv) : Bool := oneV m && befB r.fc r.fr m.c m.r
structure AllF (r : Rep) (l : List Mv) (a : Rep) : Prop where
  came : CameF r l a
  log : a.log = uniV r.log l
  base : a.base = r.base
  fc : a.fc = r.fc
  fr : a.fr = r.fr
theorem AllF.add {r : Rep} {l : List Mv} {a : Rep} (h : AllF r l a) (sa : SmF 700 a) {m : Mv} (hm : takenB r m = true) : (addF a m).2.2 = 0 ∧ AllF r (l ++ [m]) (addF a m).1 := by
  unfold takenB at hm
  rw [Bool.and_eq_true] at hm
  have hb : befB a.fc a.fr m.c m.r = true := by rw [h.fc, h.fr]; exact hm.2
  have h0 : (addF a m).2.2 = 0 := by rw [addF_err h.came.may, hm.1, hb]; rfl
  have hC := h.came.add sa m
  rw [if_pos h0] at hC
  have f := addF_floor a m
  refine ⟨h0, hC, ?_, by rw [f.2.2, h.base], by rw [f.1, h.fc], by rw [f.2.1, h.fr]⟩
  have e : uniV r.log (l ++ [m]) = insV (uniV r.log l) m := by unfold uniV; rw [List.foldl_append]; rfl
  rw [e, ← h.log]
  unfold addF
  rw [mayF_iff.2 h.came.may, hm.1, hb]
  cases hn : newV a.log m with
  | true => simp
  | false =>
    have : a.log.any (tmB m.c m.r) = true := by unfold newV at hn; simpa using hn
    simp [insV, this]
theorem merge_all {r0 r : Rep} : ∀ (l k : List Mv) (a : Rep) (n : Nat), AllF r k a → SmF n a → n + l.length ≤ 700 → (∀ m ∈ l, takenB r m = true) → (mergeF r0 a l).2 = 0 ∧ AllF r (k ++ l) (mergeF r0 a l).1
  | [], k, a, n, h, _, _, _ => ⟨rfl, by rw [List.append_nil]; exact h⟩
  | m :: l, k, a, n, h, sa, hn, hm => by
    simp only [List.length_cons] at hn
    obtain ⟨h0, h1⟩ := h.add (sa.mono (by omega)) (hm m List.mem_cons_self)
    have := merge_all (r0 := r0) l (k ++ [m]) _ (n + 1) h1 (sa.add m) (by omega) fun x hx => hm x (List.mem_cons_of_mem _ hx)
    unfold mergeF
    rw [if_pos h0]
    rw [List.append_assoc] at this
    exact this
theorem merge_not {r0 r : Rep} : ∀ (l k : List Mv) (a : Rep) (n : Nat), AllF r k a → SmF n a → n + l.length ≤ 700 → (∃ m ∈ l, takenB r m = false) → (mergeF r0 a l).2 ≠ 0
  | [], k, a, n, _, _, _, hm => by obtain ⟨m, h, _⟩ := hm; cases h
  | m :: l, k, a, n, h, sa, hn, hm => by
    simp only [List.length_cons] at hn
    unfold mergeF
    cases ht : takenB r m with
    | true =>
      obtain ⟨h0, h1⟩ := h.add (sa.mono (by omega)) ht
      rw [if_pos h0]
      refine merge_not l (k ++ [m]) _ (n + 1) h1 (sa.add m) (by omega) ?_
      obtain ⟨x, hx, hf⟩ := hm
      rcases List.mem_cons.1 hx with rfl | hx
      · rw [ht] at hf; cases hf
      · exact ⟨x, hx, hf⟩
    | false =>
      have e : (addF a m).2.2 ≠ 0 := by
        rw [addF_err h.came.may, h.fc, h.fr]
        unfold takenB at ht
        cases ho : oneV m <;> cases hb : befB r.fc r.fr m.c m.r <;> rw [ho, hb] at ht <;> simp at ht ⊢
      rw [if_neg e]
      exact e
theorem AllF.start {r : Rep} (h : MayF r) : AllF r [] r := ⟨⟨h, fun x => by have := h.marks.nonneg x; simp [supV]; omega, by simp⟩, rfl, rfl, rfl, rfl⟩
theorem supV_ext {x : Int} {l k : List Mv} (h : ∀ m, m ∈ l ↔ m ∈ k) : supV x l 0 = supV x k 0 := by
  have key : ∀ n : Int, supV x l 0 ≤ n ↔ supV x k 0 ≤ n := fun n => by
    rw [supV_le, supV_le]
    constructor
    · rintro ⟨h1, h2⟩; exact ⟨h1, fun m hm => h2 m ((h m).2 hm)⟩
    · rintro ⟨h1, h2⟩; exact ⟨h1, fun m hm => h2 m ((h m).1 hm)⟩
  have h1 := (key (supV x k 0)).2 (Int.le_refl _)
  have h2 := (key (supV x l 0)).1 (Int.le_refl _)
  omega
theorem getK_ext {l k : List Mv} (hn : ∀ x ∈ l, ∀ y ∈ l, x.c = y.c → x.r = y.r → keyV x = keyV y) (h : ∀ m, m ∈ l ↔ m ∈ k) (c r : Int) : getK l c r = getK k c r := by
  have hn2 : ∀ x ∈ k, ∀ y ∈ k, x.c = y.c → x.r = y.r → keyV x = keyV y := fun x hx y hy => hn x ((h x).2 hx) y ((h y).2 hy)
  cases e : getK l c r with
  | none =>
    have := getK_none.1 e
    exact (getK_none.2 fun x hx => this x ((h x).2 hx)).symm
  | some key =>
    obtain ⟨x, hx, rfl, rfl, rfl⟩ := getK_some e
    exact (getK_of_mem hn2 ((h x).1 hx)).symm
theorem AllF.same {r : Rep} {l k : List Mv} {a b : Rep} (ha : AllF r l a) (hb : AllF r k b) (hs : SortedV r.log) (hk : ∀ c t, (getK r.log c t).or (getK l c t) = (getK r.log c t).or (getK k c t)) (hx : ∀ x, supV x l 0 = supV x k 0) : sameF a b = true := by
  have e1 : a.mks = b.mks := ha.came.may.marks.ext hb.came.may.marks fun x => by rw [ha.came.mks, hb.came.mks, hx]
  have e2 : sameV a.log b.log = true := by
    unfold sameV
    rw [decide_eq_true_eq, ha.log, hb.log]
    exact key_ext (uniV_sorted hs) (uniV_sorted hs) fun c t => by rw [getK_uni, getK_uni, hk]
  unfold sameF
  rw [e2, ha.base, hb.base, ha.fc, hb.fc, ha.fr, hb.fr, e1, sameR_refl]
  simp
/-- The loop that looks for two of one time, and turns the list. -/
theorem order_inner {l : List Mv} (hl : l.length ≤ 100) (hf : FlOK l) {i : Nat} {x : Mv} (hx : l[i]? = some x) (v : IV) :
    iter rounds (law18_FloorOrder_l9 [v, .int .i64 (i : Int)] (eMvs l)) [.int .i64 0] = some (if ((l.take i).any fun y => decide (y.c = x.c ∧ y.r = x.r) && !decide (keyV y = keyV x)) = true then (1, [.bool true]) else (0, [])) := by
  have hi : i < l.length := (List.getElem?_eq_some_iff.1 hx).1
  have htl : (l.take i).length = i := by simp; omega
  rw [iter_check (vs0 := [.int .i64 0]) (fun k => [IV.int .i64 (k : Int)]) (fun _ y => decide (y.c = x.c ∧ y.r = x.r) && !decide (keyV y = keyV x)) 1 [.bool true] 0 [] (l.take i) rfl (by have := rounds_eq; omega), anyI_any]
  · intro k y hy
    have hk : k < i := by have := (List.getElem?_eq_some_iff.1 hy).1; omega
    rw [List.getElem?_take_of_lt hk] at hy
    have ha := ref13_Alike_eq (hf y (List.mem_of_getElem? hy)) (hf x (List.mem_of_getElem? hx))
    unfold law18_FloorOrder_l9
    simp only [nth_zero, nth_one, nth_two, nth_three, nth_four, nth_five, ibin_lss, Int.ofNat_lt, hk, decide_true, icond_true, Option.bind_some, at_Mv hx, at_Mv hy, ildN_two hx, ildN_two hy, ieqs_ii, ha, iun_not, icond_bool, law18_live_eq, ibin_succ (show k < 2 ^ 62 by omega)]
    by_cases h1 : y.c = x.c ∧ y.r = x.r <;> by_cases h3 : keyV y = keyV x <;> simp [h1, h3]
  · rw [htl]
    unfold law18_FloorOrder_l9
    simp
theorem order_back {l : List Mv} (hl : l.length ≤ 100) (hf : FlOK l) : ∀ (k n : Nat) (out : List Mv), k ≤ l.length → k < n → out.length + k ≤ 200 →
    iter n (law18_FloorOrder_l5 (eMvs l)) [eMvs out, .int .i64 ((k : Int) - 1)] = some (1, [.bool true]) ∨
      (iter n (law18_FloorOrder_l5 (eMvs l)) [eMvs out, .int .i64 ((k : Int) - 1)] = some (0, [eMvs (out ++ (l.take k).reverse)]) ∧ ∀ i x, i < k → l[i]? = some x → ((l.take i).any fun y => decide (y.c = x.c ∧ y.r = x.r) && !decide (keyV y = keyV x)) = false) := by
  intro k
  induction k with
  | zero =>
    intro n out _ hn _
    obtain ⟨n, rfl⟩ : ∃ n', n = n' + 1 := ⟨n - 1, by omega⟩
    refine .inr ⟨?_, fun i x hi => by omega⟩
    rw [iter_done n (k := 0) (o := [eMvs out])]
    · simp
    · unfold law18_FloorOrder_l5
      simp
  | succ k ih =>
    intro n out hk hn ho
    obtain ⟨n, rfl⟩ : ∃ n', n = n' + 1 := ⟨n - 1, by omega⟩
    obtain ⟨x, hx⟩ : ∃ x, l[k]? = some x := ⟨l[k], List.getElem?_eq_getElem (by omega)⟩
    have hk' : (((k + 1 : Nat) : Int) - 1) = (k : Int) := by omega
    rw [hk']
    have hin := order_inner hl hf hx (eMvs out)
    have ap : iapp 6 56 (eMvs out) (.lst [[.int .i64 x.c, .int .i64 x.r, .int .i64 x.par, .int .i64 x.ch, .str x.nm, .flt .f64 x.rk]]) = some (eMvs (out ++ [x])) := iapp_Mv (l := out) (k := [x]) (by omega) (by simp)
    have hge : (0 : Int) ≤ (k : Int) := by omega
    have sb : ibin .sub (.int .i64 (k : Int)) (.int .i64 1) = some (.int .i64 ((k : Int) - 1)) := ibin_sub (by omega) (by omega)
    cases hc : ((l.take k).any fun y => decide (y.c = x.c ∧ y.r = x.r) && !decide (keyV y = keyV x)) with
    | true =>
      rw [hc] at hin
      left
      refine iter_done n ?_
      unfold law18_FloorOrder_l5
      simp only [nth_zero, nth_one, nth_two, nth_three, nth_four, nth_five, ibin_geq, hge, decide_true, icond_true, Option.bind_some, at_Mv hx, ap, hin, if_true, sel_one]
    | false =>
      rw [hc] at hin
      have hst : law18_FloorOrder_l5 (eMvs l) [eMvs out, .int .i64 (k : Int)] = some (.next [eMvs (out ++ [x]), .int .i64 ((k : Int) - 1)]) := by
        unfold law18_FloorOrder_l5
        simp only [nth_zero, nth_one, nth_two, nth_three, nth_four, nth_five, ibin_geq, hge, decide_true, icond_true, Option.bind_some, at_Mv hx, ap, hin, if_false, Bool.false_eq_true, sel_zero, sb]
      rw [iter_next n hst]
      have hrev : (l.take (k + 1)).reverse = x :: (l.take k).reverse := by rw [take_snocM hx]; simp
      rcases ih n (out ++ [x]) (by omega) (by omega) (by simp; omega) with h | ⟨h, h2⟩
      · exact .inl h
      · refine .inr ⟨by rw [h, hrev]; simp, fun i y hi hy => ?_⟩
        by_cases e : i = k
        · subst e; rw [hx] at hy; cases hy; exact hc
        · exact h2 i y (by omega) hy
set_option maxHeartbeats 2000000 in
theorem law18_FloorOrder_true (r : Rep) (l : List Mv) (hr : OKF r) (hl : ∀ m ∈ l, OKm m) :
    law18_FloorOrder_s (eRws r.base) (.int .i64 r.fc) (.int .i64 r.fr) (eMvs r.log) (eMarks r.mks) (eMvs l) = some [.bool true] := by
  have hf : ref13_Few_s (eMvs l) (.int .i64 20) = some [.bool (fewV l 20)] := ref13_Few_eq (n := 20) (by decide)
  unfold law18_FloorOrder_s
  simp only [ref18_Few_eq, hf, law18_live_eq, Option.bind_some, nth_zero, iun_not, icond_bool]
  by_cases h1 : fewF r = true
  · by_cases h3 : fewV l 20 = true
    · have s := fewF_sm h1
      have b20 := fewV_len h3
      have hfl : FlOK l := fun m hm => (hl m hm).rk
      simp only [h1, h3, Bool.not_true, Bool.false_eq_true, if_false, ref18_May_eq (s.mono (show 60 ≤ 2000 by omega)) hr, Option.bind_some, nth_zero, iun_not]
      by_cases h2 : mayF r = true
      · have hM := mayF_iff.1 h2
        have sb : ibin .sub (.int .i64 (l.length : Int)) (.int .i64 1) = some (.int .i64 ((l.length : Int) - 1)) := ibin_sub (by omega) (by omega)
        have e0 : (IV.lst []) = eMvs [] := rfl
        simp only [h2, Bool.not_true, Bool.false_eq_true, if_false, icond_false, Option.bind_some, nth_zero, ilenL_lst, List.length_map, sb, e0]
        rcases order_back (l := l) (by omega) hfl l.length rounds [] (Nat.le_refl _) (by have := rounds_eq; omega) (by simp; omega) with h | ⟨h, hcl⟩
        · rw [h]; simp
        · rw [h]
          rw [List.take_length, List.nil_append]
          simp only [Option.bind_some, sel_zero, nth_zero]
          have hlr : ∀ m ∈ l.reverse, OKm m := fun m hm => hl m (List.mem_reverse.1 hm)
          have hlen : l.reverse.length ≤ 20 := by simpa using b20
          have f1 := floor_Merge_eq (l := l) (s.mono (by omega)) hr (by omega) hl
          have f2 := floor_Merge_eq (l := l.reverse) (s.mono (by omega)) hr (by omega) hlr
          have oA := mergeF_ok (n := 0) hr l r hl hr
          have oB := mergeF_ok (n := 0) hr l.reverse r hlr hr
          have sA : SmF 80 (mergeF r r l).1 := mergeF_sm (s.mono (by omega)) l 60 r s (by omega)
          have sB : SmF 80 (mergeF r r l.reverse).1 := mergeF_sm (s.mono (by omega)) l.reverse 60 r s (by omega)
          have f3 := floor_Merge_eq (l := l.reverse) (sA.mono (by omega)) oA (by omega) hlr
          by_cases hall : ∀ m ∈ l, takenB r m = true
          · obtain ⟨d0, gA⟩ := merge_all (r0 := r) l [] r 60 (AllF.start hM) s (by omega) hall
            obtain ⟨e1, gB⟩ := merge_all (r0 := r) l.reverse [] r 60 (AllF.start hM) s (by omega) fun m hm => hall m (List.mem_reverse.1 hm)
            rw [List.nil_append] at gA gB
            obtain ⟨c0, gC⟩ := merge_all (r0 := (mergeF r r l).1) l.reverse l (mergeF r r l).1 80 gA sA (by omega) fun m hm => hall m (List.mem_reverse.1 hm)
            have oC := mergeF_ok (n := 0) oA l.reverse (mergeF r r l).1 hlr oA
            have sC : SmF 2000 (mergeF (mergeF r r l).1 (mergeF r r l).1 l.reverse).1 := mergeF_sm (sA.mono (by omega)) l.reverse 80 _ sA (by omega)
            have hsr := (mayV_parts.1 hM.moves).2.2
            have hno : ∀ x ∈ l, ∀ y ∈ l, x.c = y.c → x.r = y.r → keyV x = keyV y := by
              have key : ∀ (i j : Nat) (x y : Mv), l[i]? = some x → l[j]? = some y → j < i → x.c = y.c → x.r = y.r → keyV y = keyV x := fun i j x y hx hy hj hc hr' => by
                have h9 := hcl i x (List.getElem?_eq_some_iff.1 hx).1 hx
                rw [List.any_eq_false] at h9
                have hm : y ∈ l.take i := List.mem_of_getElem? (by rw [List.getElem?_take_of_lt hj]; exact hy)
                have h10 := h9 y hm
                by_cases hk : keyV y = keyV x
                · exact hk
                · exact absurd (by simp [hc, hr', hk]) h10
              intro x hx y hy hc hr'
              obtain ⟨i, hi⟩ := List.getElem?_of_mem hx
              obtain ⟨j, hj⟩ := List.getElem?_of_mem hy
              rcases Nat.lt_trichotomy i j with h1 | h1 | h1
              · exact key j i y x hj hi h1 hc.symm hr'.symm
              · subst h1; rw [hi] at hj; cases hj; rfl
              · exact (key i j x y hi hj h1 hc hr').symm
            have hg := getK_ext (l := l) (k := l.reverse) hno fun m => List.mem_reverse.symm
            have sAB : sameF (mergeF r r l).1 (mergeF r r l.reverse).1 = true := gA.same gB hsr (fun c t => by rw [hg]) fun x => supV_ext fun m => List.mem_reverse.symm
            have sCA : sameF (mergeF (mergeF r r l).1 (mergeF r r l).1 l.reverse).1 (mergeF r r l).1 = true := by
              refine gC.same gA hsr (fun c t => ?_) fun x => supV_ext fun m => by simp
              rw [getK_append, ← hg c t]
              cases getK l c t <;> simp
            have q1 := ref18_Same_eq (a := (mergeF r r l).1) (b := (mergeF r r l.reverse).1) (sA.mono (by omega)) oA oB
            have q2 := ref18_Same_eq (a := (mergeF (mergeF r r l).1 (mergeF r r l).1 l.reverse).1) (b := (mergeF r r l).1) sC oC oA
            rw [sAB] at q1
            rw [sCA] at q2
            simp [f1, f2, f3, d0, e1, c0, q1, q2]
          · have hne : ∃ m ∈ l, takenB r m = false := by
              apply Classical.byContradiction
              intro hh
              apply hall
              intro m hm
              cases ht : takenB r m with
              | true => rfl
              | false => exact absurd ⟨m, hm, ht⟩ hh
            have d0 := merge_not (r0 := r) l [] r 60 (AllF.start hM) s (by omega) hne
            have e1 := merge_not (r0 := r) l.reverse [] r 60 (AllF.start hM) s (by omega) (by obtain ⟨m, hm, ht⟩ := hne; exact ⟨m, List.mem_reverse.2 hm, ht⟩)
            have a1 := mergeF_err l r d0
            have a2 := mergeF_err l.reverse r e1
            have q1 := ref18_Same_eq (a := r) (b := r) (s.mono (by omega)) hr hr
            simp only [sameF_refl] at q1
            simp [f1, f2, f3, d0, e1, a1, a2, q1]
      · simp [h2]
    · simp [h1, h3]
  · simp [h1]
end Go.AM

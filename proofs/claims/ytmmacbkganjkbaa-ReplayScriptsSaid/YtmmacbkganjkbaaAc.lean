/- The abstract machine's regions against the model's, first part: guards; operations one behind the other. -/
import Derived.Test.YtmmacbkganjkbaaAb
import Derived.Orders
import Derived.LoopN
import Derived.Scope
import Derived.Lib.Overlaps
import Derived.Test.YtmmacbkganjkbaaAa
set_option linter.unusedVariables false
set_option linter.unusedSimpArgs false
namespace Go.AM
open Go.RowKit

/-- From one moment to a later one: what is told of memory, what is locked, and which temporaries have not turned. -/
structure Step (w : World) (ok : Nat → Prop) (mu : Mu) (h : List Ob) (a : Act) (w' : World) (ok' : Nat → Prop) (mu' : Mu) (h' : List Ob) (a' : Act) (ds : List Nat) : Prop where
  later : Later w ok mu w' ok' mu'
  stay : Stay h h'
  defers : a'.defers = a.defers
  same : ∀ t, t ∉ ds → a'.tmps[t]? = a.tmps[t]?
  size : a'.tmps.size = a.tmps.size
theorem Step.refl (w : World) (ok : Nat → Prop) (mu : Mu) (h : List Ob) (a : Act) (ds : List Nat) : Step w ok mu h a w ok mu h a ds := ⟨.refl _ _ _, .refl _, rfl, fun _ _ => rfl, rfl⟩
theorem Step.trans {w w1 w2 : World} {ok ok1 ok2 : Nat → Prop} {mu mu1 mu2 : Mu} {h h1 h2 : List Ob} {a a1 a2 : Act} {ds es : List Nat} (x : Step w ok mu h a w1 ok1 mu1 h1 a1 ds) (y : Step w1 ok1 mu1 h1 a1 w2 ok2 mu2 h2 a2 es) : Step w ok mu h a w2 ok2 mu2 h2 a2 (ds ++ es) :=
  ⟨x.later.trans y.later, x.stay.trans y.stay, y.defers.trans x.defers, fun t ht => by
    simp only [List.mem_append, not_or] at ht
    rw [y.same t ht.2, x.same t ht.1], y.size.trans x.size⟩
theorem Step.sub {w w1 : World} {ok ok1 : Nat → Prop} {mu mu1 : Mu} {h h1 : List Ob} {a a1 : Act} {ds es : List Nat} (x : Step w ok mu h a w1 ok1 mu1 h1 a1 ds) (hs : ∀ t, t ∈ ds → t ∈ es) : Step w ok mu h a w1 ok1 mu1 h1 a1 es :=
  ⟨x.later, x.stay, x.defers, fun t ht => x.same t fun h => ht (hs t h), x.size⟩
structure Cfg (w0 : World) (ok0 : O0) (w : World) (ok : Nat → Prop) (mu : Mu) (st : St) (a : Act) : Prop where
  inv : Inv w0 ok0 w ok mu st.h
  fresh : ∀ q, st.h.length ≤ q → mu q = none
  fr : Fr w ok mu st.fr a.tmps

/-- A guard's word. -/
def guardVal (ops : Array Oper) (o : Oper) (fr : List PV) : Option Bool :=
  match o.guard with
  | none => some true
  | some (j, want) =>
    match (ops[j]?).bind (·.dst) with
    | none => none
    | some s =>
      match fr.getD s .undef with
      | .imm (.bool b) => some (b == want)
      | .skip => some false
      | _ => none
theorem set_same {fr : List PV} {s : Nat} {p : PV} (h : fr.getD s .undef = p) (hp : p ≠ .undef) : fr.set s p = fr := by
  apply List.ext_getElem?
  intro i
  rw [List.getElem?_set]
  by_cases e : s = i
  · subst e
    by_cases hl : s < fr.length
    · simp only [if_true, hl]
      rw [List.getD_eq_getElem?_getD, List.getElem?_eq_getElem hl] at h
      simp only [Option.getD_some] at h
      rw [List.getElem?_eq_getElem hl, h]
    · exfalso
      rw [List.getD_eq_getElem?_getD, List.getElem?_eq_none (Nat.le_of_not_lt hl)] at h
      exact hp h.symm
  · simp [e]

section
variable {P : Program} {Γ : FuncId → Option FSig} {C : IV → List Nat → List (List IV) → Option (List IV)} {w0 : World} {ok0 : O0} {ops : Array Oper} {o : Oper} {a : Act} {w : World} {ok : Nat → Prop} {mu : Mu} {st : St} {R : Type}

/-- An operation under its guard. -/
theorem execOp1_spec {k : St → Option R} {r : R} (hs : execOp1 P Γ C ops o st k = some r) : ∃ b, guardVal ops o st.fr = some b ∧
    ((b = true ∧ ∃ p h', stepD P Γ C o st = some (p, h') ∧ k ⟨setDst st.fr o.dst p, h'⟩ = some r) ∨ (b = false ∧ k ⟨setDst st.fr o.dst .skip, st.h⟩ = some r)) := by
  have go : ∀ {st : St}, stepOp P Γ C o st (fun p h => k ⟨setDst st.fr o.dst p, h⟩) = some r → ∃ p h', stepD P Γ C o st = some (p, h') ∧ k ⟨setDst st.fr o.dst p, h'⟩ = some r := by
    intro st hs
    rw [stepOp_nat] at hs
    obtain ⟨⟨p, h'⟩, h1, h2⟩ := Option.bind_eq_some_iff.1 hs
    exact ⟨p, h', h1, h2⟩
  unfold execOp1 at hs
  unfold guardVal
  simp only at hs
  split at hs
  · rename_i h0; rw [h0]; exact ⟨true, rfl, .inl ⟨rfl, go hs⟩⟩
  · rename_i j want hg
    rw [hg]
    simp only
    split at hs
    · cases hs
    · rename_i s hj
      simp only [hj]
      split at hs
      · rename_i x hx
        have key : ∀ b : Bool, x = .bool b → (⟨st.fr.set s (.imm (.bool b)), st.h⟩ : St) = st := by
          rintro b rfl
          rw [set_same hx (by simp)]
        rcases icond_some hs with ⟨rfl, h1⟩ | ⟨rfl, h1⟩
        · rw [key true rfl] at h1
          simp only [hx]
          cases want
          · simp only [Bool.false_eq_true, if_false] at h1
            exact ⟨false, rfl, .inr ⟨rfl, h1⟩⟩
          · simp only [if_true] at h1
            exact ⟨true, rfl, .inl ⟨rfl, go h1⟩⟩
        · rw [key false rfl] at h1
          simp only [hx]
          cases want
          · simp only [Bool.false_eq_true, if_false] at h1
            exact ⟨true, rfl, .inl ⟨rfl, go h1⟩⟩
          · simp only [if_true] at h1
            exact ⟨false, rfl, .inr ⟨rfl, h1⟩⟩
      · rename_i hx
        simp only [hx]
        exact ⟨false, rfl, .inr ⟨rfl, hs⟩⟩
      · cases hs
/-- The model asks the same. -/
theorem wanted_of {fr : List PV} {b : Bool} (hg : guardVal ops o fr = some b) (hf : ∀ s v, o.guard.bind (fun g => (ops[g.1]?).bind (·.dst)) = some s → a.tmps[s]? = some v → RP w ok mu (fr.getD s .undef) v) (hsz : fr.length = a.tmps.size) : Region.wanted o (yielded ops a.tmps) = b := by
  unfold guardVal at hg
  unfold Region.wanted
  split at hg
  · rename_i h0; rw [h0]; cases hg; rfl
  · rename_i j want h0
    rw [h0]
    simp only
    split at hg
    · cases hg
    · rename_i s hj
      have hlt : fr.getD s .undef ≠ .undef → s < a.tmps.size := by
        intro hne
        rw [← hsz]
        rcases Nat.lt_or_ge s fr.length with h1 | h1
        · exact h1
        · rw [List.getD_eq_getElem?_getD, List.getElem?_eq_none h1] at hne; exact absurd rfl hne
      have hb : o.guard.bind (fun g => (ops[g.1]?).bind (·.dst)) = some s := by rw [h0]; exact hj
      split at hg
      · rename_i c hx
        cases hg
        have hl := hlt (by rw [hx]; simp)
        have hv : a.tmps[s]? = some a.tmps[s] := Array.getElem?_eq_getElem hl
        have r := hf s _ hb hv
        rw [hx] at r
        have hval : a.tmps[s] = .bool c := by
          generalize a.tmps[s] = v at r
          cases r with | imm r => cases r; rfl
        rw [hval] at hv
        have hy : yielded ops a.tmps j = some c := by
          unfold yielded
          rw [hj]
          simp only [Option.bind_some]
          rw [hv]
        rw [hy]
        cases c <;> cases want <;> rfl
      · rename_i hx
        cases hg
        have hl := hlt (by rw [hx]; simp)
        have hv : a.tmps[s]? = some a.tmps[s] := Array.getElem?_eq_getElem hl
        have r := hf s _ hb hv
        rw [hx] at r
        have hval : a.tmps[s] = undef := by
          generalize a.tmps[s] = v at r
          cases r; rfl
        rw [hval] at hv
        have hy : yielded ops a.tmps j = none := by
          unfold yielded
          rw [hj]
          simp only [Option.bind_some]
          rw [hv]
          rfl
        rw [hy]
        rfl
      · cases hg
theorem Fr.at {fr : List PV} {tmps : Array Value} (r : Fr w ok mu fr tmps) {s : Nat} {v : Value} (h : tmps[s]? = some v) : RP w ok mu (fr.getD s .undef) v := by
  have hl : s < tmps.size := (Array.getElem?_eq_some_iff.1 h).1
  have hl' : s < fr.length := by rw [r.size]; exact hl
  have h1 : fr[s]? = some fr[s] := List.getElem?_eq_getElem hl'
  rw [List.getD_eq_getElem?_getD, h1]
  exact r.rel s _ v h1 h
theorem put_same {d : Option Nat} {v : Value} {t : Nat} (ht : d ≠ some t) : (a.put d v).tmps[t]? = a.tmps[t]? := by
  cases d with
  | none => rfl
  | some d =>
    have : d ≠ t := fun e => ht (by rw [e])
    simp [Act.put, Array.getElem?_setIfInBounds_ne this]
theorem putT_size {d : Option Nat} {v : Value} : (a.put d v).tmps.size = a.tmps.size := by cases d <;> simp [Act.put]
theorem put_defers' {d : Option Nat} {v : Value} : (a.put d v).defers = a.defers := by cases d <;> rfl
theorem Fr.put {fr : List PV} (r : Fr w ok mu fr a.tmps) (d : Option Nat) {p : PV} {v : Value} (h : RP w ok mu p v) : Fr w ok mu (setDst fr d p) (a.put d v).tmps := by
  cases d with
  | none => exact r
  | some d => exact r.set d h

theorem ops_sound (hΓ : GOK P Γ) (hC : COK P C) {Q : Exit → Act → World → Prop} {k : St → Option R} {r : R} : ∀ (l : List Oper) (st : St) (a : Act) (w : World) (ok : Nat → Prop) (mu : Mu), execOps P Γ C ops l st k = some r → Cfg w0 ok0 w ok mu st a →
    (∀ st' a' w' ok' mu', k st' = some r → Cfg w0 ok0 w' ok' mu' st' a' → Step w ok mu st.h a w' ok' mu' st'.h a' (dsts l) → Q .normal a' w') → wpList P ops Q l a w
  | [], st, a, w, ok, mu, hs, hc, hk => hk st a w ok mu hs hc (.refl _ _ _ _ _ _)
  | o :: l, st, a, w, ok, mu, hs, hc, hk => by
    simp only [execOps] at hs
    obtain ⟨b, hg, hcase⟩ := execOp1_spec hs
    have hw := wanted_of (w := w) (ok := ok) (mu := mu) (a := a) hg (fun s v _ hv => hc.fr.at hv) hc.fr.size
    have hds : ∀ t, t ∈ dsts l → t ∈ dsts (o :: l) := fun t ht => by
      simp only [dsts, List.filterMap_cons] at *
      split
      · exact ht
      · exact List.mem_cons_of_mem _ ht
    have hd : ∀ t, o.dst = some t → t ∈ dsts (o :: l) := fun t ht => by
      simp only [dsts, List.filterMap_cons, ht]
      exact List.mem_cons_self
    unfold wpList
    rw [hw]
    rcases hcase with ⟨rfl, p, h', hst, hrest⟩ | ⟨rfl, hrest⟩
    · simp only [if_true]
      left
      refine step_m hΓ hC hst hc.fr hc.inv hc.fresh _ _ fun v w' hr => ?_
      obtain ⟨ok', mu', hl, hi, hp, hfr⟩ := hr
      refine ops_sound hΓ hC l _ _ _ ok' mu' hrest ⟨hi, hfr, (hc.fr.later hl).put o.dst hp⟩ fun st' a' w2 ok2 mu2 h1 h2 h3 => hk st' a' w2 ok2 mu2 h1 h2 ?_
      have h0 : Step w ok mu st.h a w' ok' mu' h' (a.put o.dst v) (dsts (o :: l)) := ⟨hl, stepD_stay hst, put_defers', fun t ht => put_same fun e => ht (hd t e), putT_size⟩
      exact (h0.trans (h3.sub hds)).sub fun t ht => by simpa using ht
    · simp only [Bool.false_eq_true, if_false]
      refine ops_sound hΓ hC l _ _ _ ok mu hrest ⟨hc.inv, hc.fresh, hc.fr.put o.dst .skip⟩ fun st' a' w2 ok2 mu2 h1 h2 h3 => hk st' a' w2 ok2 mu2 h1 h2 ?_
      have h0 : Step w ok mu st.h a w ok mu st.h (a.put o.dst undef) (dsts (o :: l)) := ⟨.refl _ _ _, .refl _, put_defers', fun t ht => put_same fun e => ht (hd t e), putT_size⟩
      exact (h0.trans (h3.sub hds)).sub fun t ht => by simpa using ht
end
end Go.AM
/- The abstract machine's regions against the model's, second part: operations that leave all objects as they are, in whatever order. -/
set_option linter.unusedVariables false
set_option linter.unusedSimpArgs false
namespace Go.AM
open Go.RowKit

/-! ### How the objects grow -/
def ObFz (x y : Ob) : Prop := y = x ∨ (∃ m cs, x = .box m cs ∧ y = .box .fz cs) ∨ ∃ m s z, x = .arr m s z ∧ y = .arr .fz s z
theorem ObFz.trans {x y z : Ob} (a : ObFz x y) (b : ObFz y z) : ObFz x z := by
  rcases a with rfl | ⟨m, cs, rfl, rfl⟩ | ⟨m, s, u, rfl, rfl⟩
  · exact b
  · rcases b with rfl | ⟨m', cs', e, rfl⟩ | ⟨m', s', u', e, rfl⟩
    · exact .inr (.inl ⟨m, cs, rfl, rfl⟩)
    · cases e; exact .inr (.inl ⟨m, cs, rfl, rfl⟩)
    · cases e
  · rcases b with rfl | ⟨m', cs', e, rfl⟩ | ⟨m', s', u', e, rfl⟩
    · exact .inr (.inr ⟨m, s, u, rfl, rfl⟩)
    · cases e
    · cases e; exact .inr (.inr ⟨m, s, u, rfl, rfl⟩)
theorem ObFz.okL {w : World} {ok : Nat → Prop} {mu : Mu} {pl : Pl} {x y : Ob} (a : ObFz x y) (h : ObOk w ok mu pl y) : ObOk w ok mu pl x := by
  rcases a with rfl | ⟨m, cs, rfl, rfl⟩ | ⟨m, s, u, rfl, rfl⟩ <;> exact h
theorem ObFz.okR {w : World} {ok : Nat → Prop} {mu : Mu} {pl : Pl} {x y : Ob} (a : ObFz x y) (h : ObOk w ok mu pl x) : ObOk w ok mu pl y := by
  rcases a with rfl | ⟨m, cs, rfl, rfl⟩ | ⟨m, s, u, rfl, rfl⟩ <;> exact h
theorem ObFz.fz {x y : Ob} (a : ObFz x y) (h : x.fz = true) : y.fz = true := by
  rcases a with rfl | ⟨m, cs, rfl, rfl⟩ | ⟨m, s, u, rfl, rfl⟩
  · exact h
  · rfl
  · rfl
theorem ObFz.live {x y : Ob} (a : ObFz x y) : y.live = x.live := by
  rcases a with rfl | ⟨m, cs, rfl, rfl⟩ | ⟨m, s, u, rfl, rfl⟩ <;> rfl
structure SubH (h H : List Ob) : Prop where
  len : h.length ≤ H.length
  same : ∀ o, o < h.length → ObFz (getOb h o) (getOb H o)
theorem SubH.refl (h : List Ob) : SubH h h := ⟨Nat.le_refl _, fun _ _ => .inl rfl⟩
theorem SubH.trans {h h1 h2 : List Ob} (a : SubH h h1) (b : SubH h1 h2) : SubH h h2 :=
  ⟨Nat.le_trans a.len b.len, fun o ho => (a.same o ho).trans (b.same o (Nat.lt_of_lt_of_le ho a.len))⟩
theorem Frozen.subH {h h1 : List Ob} {l : List Nat} (f : Frozen h h1 l) : SubH h h1 :=
  ⟨by rw [f.len]; exact Nat.le_refl _, fun o _ => by
    rcases f.same o with e | ⟨_, cs, m, e1, e2⟩ | ⟨s, x, m, e1, e2⟩
    · exact .inl e
    · exact .inr (.inl ⟨m, cs, e1, e2⟩)
    · exact .inr (.inr ⟨m, s, x, e1, e2⟩)⟩
theorem SubH.append (h news : List Ob) : SubH h (h ++ news) := ⟨by simp, fun o ho => by rw [getOb_append, if_pos ho]; exact .inl rfl⟩
theorem SubH.fzs {h h1 : List Ob} {l : List Nat} (hf : fzs h l = some h1) (news : List Ob) : SubH h (h1 ++ news) := (fzs_spec hf).subH.trans (.append _ _)

section
variable {P : Program} {Γ : FuncId → Option FSig} {C : IV → List Nat → List (List IV) → Option (List IV)} {h h' : List Ob} {p : PV}
theorem subH_id {l : List Nat} {h1 : List Ob} (hf : AM.fzs h l = some h1) : SubH h h1 := (fzs_spec hf).subH
theorem loadT_sub {t : TypeId} {a : PV} (hs : loadT P t a h (fun p h => some (p, h)) = some (p, h')) : SubH h h' := by
  unfold loadT at hs
  repeat' split at hs
  all_goals first
    | (cases hs; done)
    | (cases hs; exact .refl _)
    | (obtain ⟨r, _, he⟩ := Option.bind_eq_some_iff.1 hs; cases he; exact .refl _)
theorem bcall_sub {b : Builtin} {t0 t1 : TypeId} {ps : List PV} (hq : (!isAppend b) = true) (hs : bcall P b t0 t1 ps h (fun p h => some (p, h)) = some (p, h')) : SubH h h' := by
  unfold bcall at hs
  split at hs <;> first | (cases hq; done) | skip
  all_goals (repeat' split at hs)
  all_goals first
    | (cases hs; done)
    | (cases hs; exact .refl _)
    | (obtain ⟨r, _, he⟩ := Option.bind_eq_some_iff.1 hs; cases he; exact .refl _)
theorem callSig_sub {s : FSig} {ps : List PV} (hq : s.mode = .pure ∨ s.mode = .own ∨ s.mode = .fresh ∨ ∃ n, s.mode = .look n) (hs : callSig s h ps (fun p h => some (p, h)) = some (p, h')) : SubH h h' := by
  unfold callSig at hs
  rcases hq with hq | hq | hq | ⟨n, hq⟩ <;> rw [hq] at hs <;> simp only at hs
  · split at hs
    · rename_i as h1 _ hl
      obtain ⟨r, _, he⟩ := Option.bind_eq_some_iff.1 hs
      cases he
      unfold lend at hl
      split at hl
      · cases hl; exact .refl _
      · exact subH_id hl
    · cases hs
  · split at hs
    · obtain ⟨r, _, he⟩ := Option.bind_eq_some_iff.1 hs
      cases he
      exact .append _ _
    · cases hs
  · split at hs
    · obtain ⟨r, _, he⟩ := Option.bind_eq_some_iff.1 hs
      cases he
      exact .append _ _
    · cases hs
  · split at hs
    · split at hs
      · obtain ⟨r, _, he⟩ := Option.bind_eq_some_iff.1 hs
        cases he
        exact .refl _
      · cases hs
    · cases hs
theorem call_quiet {o : Oper} {c : Call} (hop : o.op = .call c) (hq : quietB Γ o = true) : (∀ b, c.callee = .builtin b → (!isAppend b) = true) ∧ ∀ g s, c.callee = .value (.func g) → Γ g = some s → s.mode = .pure ∨ s.mode = .own ∨ s.mode = .fresh ∨ ∃ n, s.mode = .look n := by
  unfold quietB at hq
  rw [hop] at hq
  simp only at hq
  refine ⟨fun b hb => ?_, fun g s hg hs => ?_⟩
  · rw [hb] at hq; exact hq
  · rw [hg] at hq
    simp only [hs] at hq
    cases hm : s.mode <;> rw [hm] at hq <;> simp_all
theorem stepD_sub {o : Oper} {st : St} (hq : quietB Γ o = true) (hs : stepD P Γ C o st = some (p, h')) : SubH st.h h' := by
  unfold stepD stepOp at hs
  repeat' split at hs
  all_goals first
    | (cases hs; done)
    | (obtain ⟨_, _, he⟩ := Option.bind_eq_some_iff.1 hs; cases he; done)
    | (cases hs; exact .refl _)
    | (cases hs; exact .append _ _)
    | exact loadT_sub hs
    | (rename_i hop; simp [quietB, hop] at hq; done)
    | (rename_i b hcal _; exact bcall_sub ((call_quiet ‹_› hq).1 _ ‹_›) hs)
    | (rename_i s hg; exact callSig_sub ((call_quiet ‹_› hq).2 _ _ ‹_› ‹_›) hs)
    | exact callSig_sub (.inl rfl) hs
    | (rename_i hfz; exact (subH_id hfz).trans (callSig_sub (.inl rfl) hs))
    | (obtain ⟨r, _, he⟩ := Option.bind_eq_some_iff.1 hs; cases he; exact .refl _)
    | (rcases icond_some hs with ⟨_, h1⟩ | ⟨_, h1⟩ <;> cases h1 <;> exact .refl _)
    | (obtain ⟨r, _, he⟩ := Option.bind_eq_some_iff.1 hs; split at he <;> first | (cases he; done) | skip; split at he <;> first | (cases he; exact .refl _) | skip; split at he <;> first | (cases he; exact .refl _) | (cases he; done))
    | (rename_i hfz _; cases hs; exact SubH.fzs hfz _)
    | (exfalso; have : quietB Γ o = false := by { unfold quietB; simp only [*] }
       rw [this] at hq; cases hq)
end

section
variable {w0 : World} {ok0 : O0} {w w' : World} {ok ok' : Nat → Prop} {mu mu' : Mu} {H : List Ob} {n : Nat} {news : List Ob} {fz : List Nat} {p : PV} {v : Value}
/-- What grows, against the objects that there will be. -/
theorem Grow.later' (g : Grow w ok mu n news fz p v w' ok' mu') (hok : ∀ b, ok b → b < w.heap.size) (hn : news ≠ [] → mu n = none) : Later w ok mu w' ok' mu' := by
  rcases g.obs with ⟨_, e⟩ | ⟨ob, pl, e, _⟩
  · have hmu : mu' = mu := funext fun o => by
      by_cases h : o = n
      · rw [h, e]
      · exact g.same o h
    subst hmu
    refine ⟨⟨fun b hb => g.below.block b (hok b hb), g.more⟩, fun _ _ h => h, fun b c T hb => ⟨c, ?_, rfl⟩⟩
    rw [g.below.block b (Array.getElem?_eq_some_iff.1 hb).1]; exact hb
  · exact g.later hok (hn (by rw [e]; simp))
theorem Inv.growAt (i : Inv w0 ok0 w ok mu H) (hn : news ≠ [] → mu n = none) (g : Grow w ok mu n news fz p v w' ok' mu') (hfz : ∀ q ∈ fz, (getOb H q).fz = true) (hob : ∀ ob, news = [ob] → ObFz ob (getOb H n)) : Inv w0 ok0 w' ok' mu' H := by
  have hl := g.later' i.okw hn
  have hold : ∀ o pl, mu' o = some pl → (mu o = some pl) ∨ (o = n ∧ ∃ ob, news = [ob] ∧ ob.live = true ∧ ObOk w' ok' mu' pl ob ∧ ∀ b base, pl.loc = some (b, base) → w.heap.size ≤ b ∧ b < w'.heap.size ∧ ¬ ok' b) := by
    intro o pl ho
    by_cases e : o = n
    · subst e
      rcases g.obs with ⟨_, e1⟩ | ⟨ob, pl', e1, e2, h1, h2, h3⟩
      · exact .inl (by rw [← e1]; exact ho)
      · rw [ho] at e2; cases e2
        exact .inr ⟨rfl, ob, e1, h1, h2, h3⟩
    · exact .inl (by rw [← g.same o e]; exact ho)
  have hw0 : w0.heap.size ≤ w.heap.size := i.below.size
  refine ⟨i.below.trans (g.below.mono hw0), fun b hb => ?_, fun b hb => ?_, fun o pl ho => ?_, fun o pl b base ho hb => ?_, fun o o' pl pl' b base base' ho ho' hb hb' hlv hlv' => ?_⟩
  · rcases g.new b hb with h1 | h1 | ⟨q, _, pl, base, h2, h3⟩
    · exact Nat.lt_of_lt_of_le (i.okw b h1) g.below.size
    · exact h1.2
    · exact Nat.lt_of_lt_of_le (i.own q pl b base h2 h3).2.1 g.below.size
  · rcases g.new b hb with h1 | h1 | ⟨q, _, pl, base, h2, h3⟩
    · exact i.okb b h1
    · exact .inr (.inl (Nat.le_trans hw0 h1.1))
    · exact .inr (i.own q pl b base h2 h3).1
  · rcases hold o pl ho with h1 | ⟨rfl, ob, e1, _, h2, _⟩
    · exact (i.ob o pl h1).later hl fun b base hb => g.below.block b (i.own o pl b base h1 hb).2.1
    · exact (hob ob e1).okR h2
  · rcases hold o pl ho with h1 | ⟨rfl, ob, e1, _, h2, h3⟩
    · obtain ⟨h4, h5, h6⟩ := i.own o pl b base h1 hb
      refine ⟨h4, Nat.lt_of_lt_of_le h5 g.below.size, fun hlv hnf hok => ?_⟩
      rcases g.new b hok with h7 | h7 | ⟨q, hq, pl', base', h8, h9⟩
      · exact h6 hlv hnf h7
      · omega
      · have hfq := hfz q hq
        have hlq : (getOb H q).live = true := by
          cases hx : getOb H q with
          | dead => rw [hx] at hfq; cases hfq
          | box _ _ => rfl
          | arr _ _ _ => rfl
        have := i.inj o q pl pl' b base base' h1 h8 hb h9 hlv hlq
        subst this
        rw [hfq] at hnf; cases hnf
    · obtain ⟨h4, h5, h6⟩ := h3 b base hb
      exact ⟨.inl (Nat.le_trans hw0 h4), h5, fun _ _ => h6⟩
  · rcases hold o pl ho with h1 | ⟨e, ob, e1, _, h2, h3⟩ <;> rcases hold o' pl' ho' with h1' | ⟨e', ob', e1', _, h2', h3'⟩
    · exact i.inj o o' pl pl' b base base' h1 h1' hb hb' hlv hlv'
    · have := (i.own o pl b base h1 hb).2.1
      have := (h3' b base' hb').1
      omega
    · have := (i.own o' pl' b base' h1' hb').2.1
      have := (h3 b base hb).1
      omega
    · rw [e, e']
end
end Go.AM

/- The abstract machine's regions against the model's, third part: what an operation looks at. -/
set_option linter.unusedVariables false
set_option linter.unusedSimpArgs false
namespace Go.AM
open Go.RowKit

section
variable {P : Program} {Γ : FuncId → Option FSig} {C : IV → List Nat → List (List IV) → Option (List IV)} {h h' : List Ob} {p : PV} {fr fr' : List PV}
theorem optIV_congr {x : Option Operand} (hx : ∀ y ∈ x.toArray, ev fr y = ev fr' y) : optIV fr x = optIV fr' x := by
  cases x with
  | none => rfl
  | some y => simp only [optIV]; rw [hx y (by simp)]
theorem map_congr' {l : Array Operand} (hl : ∀ x ∈ l, ev fr x = ev fr' x) : l.toList.map (ev fr) = l.toList.map (ev fr') :=
  List.map_congr_left fun x hx => hl x (by simpa using hx)
theorem pairs_congr {l : Array (Nat × Operand)} (hl : ∀ x ∈ (l.toList.map (·.2)).toArray, ev fr x = ev fr' x) : (l.toList.map fun p => (p.1, ev fr p.2)) = l.toList.map fun p => (p.1, ev fr' p.2) :=
  List.map_congr_left fun x hx => by rw [hl x.2 (by simp only [List.mem_toArray, List.mem_map]; exact ⟨x, hx, rfl⟩)]
theorem stepD_congr {o : Oper} (ho : ∀ x ∈ o.op.operands, ev fr x = ev fr' x) : stepD P Γ C o ⟨fr, h⟩ = stepD P Γ C o ⟨fr', h⟩ := by
  obtain ⟨dst, op, type, pos, after, guard⟩ := o
  unfold stepD stepOp
  cases op <;> simp only [Op.operands] at ho <;> simp only
  case build t ps => rw [pairs_congr ho]
  case buildSlice t n ps => rw [pairs_congr ho]
  case makeMap t r => cases r <;> rfl
  case mapUpdate t m x v => rw [ho m (by simp), ho x (by simp), ho v (by simp)]
  case lookup t m x c => rw [ho m (by simp), ho x (by simp)]
  case makeFunc fn first caps =>
    have : caps.toList.map (ev fr) = caps.toList.map (ev fr') := map_congr' fun x hx => ho x (by simp [hx])
    rw [this]
  case slice t x lo hi mx =>
    have h1 : ev fr x = ev fr' x := ho x (by simp)
    have h2 : optIV fr lo = optIV fr' lo := optIV_congr fun y hy => ho y (by simp [hy])
    have h3 : optIV fr hi = optIV fr' hi := optIV_congr fun y hy => ho y (by simp [hy])
    cases mx with
    | none => simp only; rw [h1, h2, h3]
    | some m =>
      have h4 : ev fr m = ev fr' m := ho m (by simp)
      cases lo with
      | some y => cases hi <;> rfl
      | none =>
        cases hi with
        | none => rfl
        | some y =>
          have h5 : ev fr y = ev fr' y := ho y (by simp)
          simp only [h1, h4, h5]
  case call c =>
    have hargs : c.args.toList.map (ev fr) = c.args.toList.map (ev fr') := map_congr' fun x hx => ho x (by simp [Call.operands, hx])
    simp only [hargs]
    cases hc : c.callee with
    | value f =>
      have hf : ev fr f = ev fr' f := ho f (by simp [Call.operands, hc])
      cases f <;> simp only <;> first | rfl | (rw [hf])
    | invoke r m => rfl
    | builtin b => rfl
  all_goals first
    | rfl
    | (rename_i a b c d e; rw [ho _ (by simp : c ∈ #[c, d])]; rw [ho _ (by simp : d ∈ #[c, d])])
    | (simp only [ho _ (by simp)]; done)
    | (simp_all; done)

theorem stepD_float {o : Oper} (hb : floatB o = true) (hk : okF o fr = true) (hs : stepD P Γ C o ⟨fr, h⟩ = some (p, h')) (H : List Ob) : h' = h ∧ stepD P Γ C o ⟨fr, H⟩ = some (p, H) := by
  obtain ⟨dst, op, type, pos, after, guard⟩ := o
  cases op <;> simp only [floatB, reduceCtorEq] at hb <;> simp only [stepD, stepOp] at hs ⊢ <;> simp only [okF] at hk
  case move x => cases hs; exact ⟨rfl, rfl⟩
  case assign x => cases hs; exact ⟨rfl, rfl⟩
  case pick c x y =>
    split at hs
    · rcases icond_some hs with ⟨rfl, h1⟩ | ⟨rfl, h1⟩ <;> cases h1 <;> exact ⟨rfl, rfl⟩
    · cases hs
  case binOp op t x y t' =>
    split at hs
    · split at hs
      · rename_i hb
        obtain ⟨z, hz, he⟩ := Option.bind_eq_some_iff.1 hs
        cases he
        exact ⟨rfl, by rw [if_pos hb, hz]; rfl⟩
      · rename_i hb
        split at hs
        · rename_i hb2
          obtain ⟨z, hz, he⟩ := Option.bind_eq_some_iff.1 hs
          cases he
          exact ⟨rfl, by rw [if_neg hb, if_pos hb2, hz]; rfl⟩
        · rename_i hb2
          obtain ⟨z, hz, he⟩ := Option.bind_eq_some_iff.1 hs
          cases he
          exact ⟨rfl, by rw [if_neg hb, if_neg hb2, hz]; rfl⟩
    · split at hs
      · rename_i hb
        obtain ⟨z, hz, he⟩ := Option.bind_eq_some_iff.1 hs
        cases he
        exact ⟨rfl, by rw [if_pos hb, hz]; rfl⟩
      · cases hs
    · split at hs
      · rename_i hb
        split at hs
        · rename_i h1 h2
          obtain ⟨z, hz, he⟩ := Option.bind_eq_some_iff.1 hs
          cases he
          exact ⟨rfl, by rw [if_pos hb]; simp only [hz]; rfl⟩
        · cases hs
      · cases hs
    · cases hs
  case unOp op t x =>
    split at hs
    · obtain ⟨z, hz, he⟩ := Option.bind_eq_some_iff.1 hs
      cases he
      exact ⟨rfl, by rw [hz]; rfl⟩
    · cases hs
  case slice t x lo hi mx =>
    cases mx with
    | some m =>
      cases lo with
      | some y => cases hi <;> cases hs
      | none =>
        cases hi with
        | none => cases hs
        | some y =>
          simp only at hs
          split at hs
          · rename_i hx _ _; rw [hx] at hk; cases hk
          · cases hs
    | none =>
    simp only at hs ⊢
    split at hs
    · split at hs
      · rename_i hb
        obtain ⟨z, hz, he⟩ := Option.bind_eq_some_iff.1 hs
        cases he
        exact ⟨rfl, by rw [if_pos hb, hz]; rfl⟩
      · rename_i hb
        split at hs
        · rename_i hb2
          obtain ⟨z, hz, he⟩ := Option.bind_eq_some_iff.1 hs
          cases he
          exact ⟨rfl, by rw [if_neg hb, if_pos hb2, hz]; rfl⟩
        · cases hs
    · rename_i hx _ _; rw [hx] at hk; cases hk
    · rename_i hx _ _; rw [hx] at hk; cases hk
    · cases hs
  case indexAddr t x i =>
    split at hs
    · split at hs
      · rename_i hb
        obtain ⟨z, hz, he⟩ := Option.bind_eq_some_iff.1 hs
        cases he
        exact ⟨rfl, by rw [if_pos hb, hz]; rfl⟩
      · cases hs
    · rename_i hx _; rw [hx] at hk; cases hk
    · rename_i hx _; rw [hx] at hk; cases hk
    · split at hs
      · rename_i hu
        split at hs
        · rename_i hb
          obtain ⟨z, hz, he⟩ := Option.bind_eq_some_iff.1 hs
          cases he
          exact ⟨rfl, by rw [if_pos hb, hz]; rfl⟩
        · cases hs
      · cases hs
    · cases hs
  case field t x f =>
    split at hs
    · split at hs
      · rename_i hb
        cases hs
        exact ⟨rfl, by rw [if_pos hb]⟩
      · rename_i hb
        split at hs
        · rename_i hb2
          split at hs
          · rename_i hc
            cases hs
            exact ⟨rfl, by rw [if_neg hb, if_pos hb2]⟩
          · cases hs
        · cases hs
    · cases hs
  case extract x i =>
    split at hs
    · split at hs
      · cases hs; exact ⟨rfl, rfl⟩
      · cases hs
    · cases hs
theorem float_quiet {o : Oper} (hb : floatB o = true) : quietB Γ o = true := by
  unfold floatB at hb
  unfold quietB
  split at hb <;> first | (rename_i hop; rw [hop]) | cases hb
end
def loadB (o : Oper) : Bool := match o.op with | .load _ _ => true | _ => false
section
variable {P : Program} {Γ : FuncId → Option FSig} {C : IV → List Nat → List (List IV) → Option (List IV)} {h h' : List Ob} {p : PV} {fr : List PV}
theorem load_quiet {o : Oper} (hb : loadB o = true) : quietB Γ o = true := by
  unfold loadB at hb
  unfold quietB
  split at hb <;> first | (rename_i hop; rw [hop]) | cases hb
/-- A load of an object that is left alone. -/
theorem stepD_loadF {S : List Nat} {o : Oper} (hb : loadB o = true) (hk : okFS S o fr = true) (hs : stepD P Γ C o ⟨fr, h⟩ = some (p, h')) (H : List Ob) (hH : ∀ q ∈ S, getOb H q = getOb h q) : h' = h ∧ stepD P Γ C o ⟨fr, H⟩ = some (p, H) := by
  obtain ⟨dst, op, type, pos, after, guard⟩ := o
  cases op <;> simp only [loadB, reduceCtorEq] at hb
  case load t a =>
    simp only [okFS] at hk
    split at hk
    · rename_i q j hq
      have hm : q ∈ S := by simpa using hk
      simp only [stepD, stepOp] at hs ⊢
      rw [hq] at hs ⊢
      simp only [loadT, hH q hm] at hs ⊢
      split at hs
      · rename_i h1
        rw [if_pos h1]
        split at hs
        · split at hs
          · rename_i h2
            cases hs
            exact ⟨rfl, by rw [if_pos h2]⟩
          · cases hs
        · cases hs
      · rename_i h1
        rw [if_neg h1]
        split at hs
        · rename_i h2
          rw [if_pos h2]
          split at hs
          · split at hs
            · cases hs
              exact ⟨rfl, rfl⟩
            · cases hs
          · cases hs
        · cases hs
    · cases hk
/-- What floats, or looks at what is left alone. -/
theorem stepD_F {S : List Nat} {o : Oper} (hb : floatB o = true ∨ loadB o = true) (hk : okFS S o fr = true) (hs : stepD P Γ C o ⟨fr, h⟩ = some (p, h')) (H : List Ob) (hH : ∀ q ∈ S, getOb H q = getOb h q) : h' = h ∧ stepD P Γ C o ⟨fr, H⟩ = some (p, H) := by
  rcases hb with hb | hb
  · by_cases hsl : ∃ t x lo hi mx, o.op = .slice t x lo hi mx
    · obtain ⟨t, x, lo, hi, mx, hop⟩ := hsl
      by_cases hnb : notBuf (ev fr x) = true
      · exact stepD_float hb (by unfold okF; rw [hop]; exact hnb) hs H
      · unfold okFS at hk
        rw [hop] at hk
        simp only [hnb, Bool.false_or] at hk
        split at hk
        · rename_i q n hq
          have hm : getOb H q = getOb h q := hH q (by simpa using hk)
          unfold stepD stepOp at hs ⊢
          rw [hop] at hs ⊢
          cases mx with
          | none =>
            simp only [hq] at hs ⊢
            split at hs
            · rename_i h1 _ _; cases h1
            · rename_i h1 h2 h3
              cases h1
              split at hs
              · rename_i hc
                split at hs
                · rename_i hg
                  split at hs
                  · rename_i hsz
                    obtain ⟨z, hz, he⟩ := Option.bind_eq_some_iff.1 hs
                    cases he
                    exact ⟨rfl, by simp only [h2, h3, if_pos hc, hm, hg, if_pos hsz, hz, Option.bind_some]⟩
                  · cases hs
                · cases hs
              · cases hs
            · rename_i h1 _ _; cases h1
            · cases hs
          | some m =>
            cases lo with
            | some y => cases hi <;> cases hs
            | none =>
              cases hi with
              | none => cases hs
              | some y =>
                simp only [hq] at hs ⊢
                split at hs
                · rename_i h1 h2 h3
                  cases h1
                  split at hs
                  · rename_i hc
                    split at hs
                    · rename_i hg
                      split at hs
                      · rename_i hsz
                        obtain ⟨z, hz, he⟩ := Option.bind_eq_some_iff.1 hs
                        cases he
                        exact ⟨rfl, by simp only [h2, h3, if_pos hc, hm, hg, if_pos hsz, hz, Option.bind_some]⟩
                      · cases hs
                    · cases hs
                  · cases hs
                · cases hs
        · cases hk
    · have hk' : okF o fr = true := by
        unfold okFS at hk
        split at hk
        · rename_i hop; simp [floatB, hop] at hb
        · rename_i hop; exact absurd ⟨_, _, _, _, _, hop⟩ hsl
        · exact hk
      exact stepD_float hb hk' hs H
  · exact stepD_loadF hb hk hs H hH
/-- What comes last leaves the objects alone. -/
theorem stepD_okB {S : List Nat} {o : Oper} {q : Nat} (hm : q ∈ S) (hk : okBS S o fr = true) (hs : stepD P Γ C o ⟨fr, h⟩ = some (p, h')) : getOb h' q = getOb h q := by
  unfold okBS at hk
  split at hk
  · cases hm
  · split at hk
    · rename_i t a v hop
      split at hk
      · rename_i q' j hq
        have hne : q' ≠ q := fun e => by subst e; simp [hm] at hk
        unfold stepD stepOp at hs
        rw [hop] at hs
        simp only [hq] at hs
        unfold storeT at hs
        split at hs
        · simp only at hs
          split at hs
          · split at hs
            · cases hs
              rw [getOb_set, if_neg (fun e => hne e.1)]
            · cases hs
          · cases hs
        · cases hs
      · cases hk
    · rename_i s x f hop
      unfold stepD stepOp at hs
      rw [hop] at hs
      simp only at hs
      repeat' split at hs
      all_goals first
        | (cases hs; rfl)
        | cases hs
        | (obtain ⟨_, _, he⟩ := Option.bind_eq_some_iff.1 hs; cases he; rfl)
    · rename_i x hop
      unfold stepD stepOp at hs
      rw [hop] at hs
      simp only at hs
      repeat' split at hs
      all_goals first
        | (cases hs; rfl)
        | cases hs
        | (obtain ⟨_, _, he⟩ := Option.bind_eq_some_iff.1 hs; cases he; rfl)
    · simp only [Bool.and_eq_true] at hk
      rw [(stepD_float hk.1 hk.2 hs h).1]
end
def appB (o : Oper) : Bool :=
  match o.op with
  | .call c => (match c.callee with | .builtin b => isAppend b | _ => false)
  | _ => false
/-- Quiet, or an append that may be to nothing. -/
def quietA (Γ : FuncId → Option FSig) (o : Oper) : Bool := quietB Γ o || appB o
section
variable {P : Program} {Γ : FuncId → Option FSig} {C : IV → List Nat → List (List IV) → Option (List IV)} {h h' : List Ob} {p : PV} {fr fr' : List PV}
theorem app_nils {o : Oper} (hb : appB o = true) (hk : okA o fr = true) : ∃ c x l, o.op = .call c ∧ c.callee = .builtin .append ∧ c.args.toList = x :: l ∧ ev fr x = .nils := by
  unfold appB at hb
  split at hb
  · rename_i c hop
    split at hb
    · rename_i b hc
      cases b <;> simp [isAppend] at hb
      unfold okA at hk
      rw [hop] at hk
      simp only [hc] at hk
      split at hk
      · rename_i x l hl
        refine ⟨c, x, l, hop, hc, hl, ?_⟩
        unfold isNils at hk
        split at hk
        · assumption
        · cases hk
      · cases hk
    · cases hb
  · cases hb
theorem stepD_suba {o : Oper} {st : St} (hq : quietB Γ o = true ∨ (appB o = true ∧ okA o st.fr = true)) (hs : stepD P Γ C o st = some (p, h')) : SubH st.h h' := by
  rcases hq with hq | ⟨hb, hk⟩
  · exact stepD_sub hq hs
  · obtain ⟨c, x, l, hop, hc, hl, hx⟩ := app_nils hb hk
    unfold stepD stepOp at hs
    rw [hop] at hs
    simp only [hc, hl, List.map_cons, hx] at hs
    split at hs
    · cases hs
    · unfold bcall at hs
      repeat' split at hs
      all_goals first
        | (cases hs; done)
        | (rename_i e _; cases e; done)
        | (obtain ⟨r, _, he⟩ := Option.bind_eq_some_iff.1 hs; cases he; exact .append _ _)
        | (exfalso; simp_all; done)
theorem step_qa {o : Oper} {a : Act} {w : World} {ok : Nat → Prop} {mu : Mu} {st : St} (hΓ : GOK P Γ) (hC : COK P C) (hs : stepD P Γ C o st = some (p, h')) (hq : quietB Γ o = true ∨ (appB o = true ∧ okA o st.fr = true)) (hf : Fr w ok mu st.fr a.tmps) (iq : InvQ w ok mu st.h) (hn : h'.length ≠ st.h.length → mu st.h.length = none) : QRes P o a w ok mu st.h p h' := by
  rcases hq with hq | ⟨hb, hk⟩
  · exact step_q hΓ hC hs hq hf iq hn
  · obtain ⟨c, x, l, hop, hc, hl, hx⟩ := app_nils hb hk
    unfold stepD stepOp at hs
    rw [hop] at hs
    simp only [hc, hl, List.map_cons, hx] at hs
    split at hs
    · cases hs
    · rename_i hsz
      have hsz : c.argTypes.size = c.args.size := by simpa using hsz
      cases l with
      | nil => simp [bcall] at hs
      | cons y l =>
        cases l with
        | cons z l => simp [bcall] at hs
        | nil =>
          simp only [List.map_cons, List.map_nil, bcall] at hs
          have hargs : c.args = #[x, y] := by rw [← Array.toList_inj]; simpa using hl
          have hat : c.argTypes.size = 2 := by rw [hsz, hargs]; rfl
          split at hs
          · rename_i hc3
            split at hs
            · rename_i ys hys
              obtain ⟨z, hz, he⟩ := Option.bind_eq_some_iff.1 hs
              cases he
              exact q_append_nil hop hc hargs hat hc3.1 hc3.2.1 hc3.2.2 iq (hn (by simp)) (hf.ev x) (hf.ev y) hx hys hz
            · cases hs
          · cases hs
end
end Go.AM

/- The abstract machine's regions against the model's, fourth part: regions that draw their order. -/
set_option linter.unusedVariables false
set_option linter.unusedSimpArgs false
namespace Go.AM
open Go.RowKit

/-! ### Who waits for whom -/
def preMasks (ops : Array Oper) : Array Nat := ops.foldl (fun acc o => acc.push (o.after.foldl (fun s e => if Region.binds .any e then s ||| 2 ^ e.on ||| acc.getD e.on 0 else s) 0)) #[]
inductive Pre (ops : Array Oper) : Nat → Nat → Prop
  | edge {j : Nat} {o : Oper} {e : Edge} (h : ops[j]? = some o) (he : e ∈ o.after) (hb : Region.binds .any e = true) : Pre ops j e.on
  | trans {j : Nat} {o : Oper} {e : Edge} {i : Nat} (h : ops[j]? = some o) (he : e ∈ o.after) (hb : Region.binds .any e = true) (hp : Pre ops e.on i) : Pre ops j i
theorem preMasks_spec (ops : Array Oper) : ∀ j i, ((preMasks ops).getD j 0).testBit i = true → Pre ops j i := by
  have key := Array.foldl_induction (as := ops) (motive := fun k acc => acc.size = k ∧ ∀ j i, (acc.getD j 0).testBit i = true → Pre ops j i) (init := #[])
    (f := fun acc o => acc.push (o.after.foldl (fun s e => if Region.binds .any e then s ||| 2 ^ e.on ||| acc.getD e.on 0 else s) 0)) ⟨rfl, fun j i h => by simp at h⟩ (by
      intro k acc ih
      obtain ⟨hsz, hacc⟩ := ih
      have hk : ops[k.1]? = some ops[k] := Array.getElem?_eq_getElem k.2
      have inner := Array.foldl_induction (as := ops[k].after) (motive := fun _ s => ∀ i, Nat.testBit s i = true → Pre ops k i) (init := 0)
        (f := fun s e => if Region.binds .any e then s ||| 2 ^ e.on ||| acc.getD e.on 0 else s) (fun i h => by simp at h) (by
          intro q s ihs i hi
          by_cases hb : Region.binds .any ops[k].after[q] = true
          · rw [if_pos hb] at hi
            simp only [Nat.testBit_or, Bool.or_eq_true] at hi
            rcases hi with (hi | hi) | hi
            · exact ihs i hi
            · rw [Nat.testBit_two_pow] at hi
              have : ops[k].after[q].on = i := by simpa using hi
              rw [← this]
              exact .edge hk (Array.getElem_mem q.2) hb
            · exact .trans hk (Array.getElem_mem q.2) hb (hacc _ i hi)
          · rw [if_neg hb] at hi
            exact ihs i hi)
      refine ⟨by simp [hsz], fun j i hi => ?_⟩
      rw [Array.getD_eq_getD_getElem?, Array.getElem?_push] at hi
      split at hi
      · rename_i e
        simp only [Option.getD_some] at hi
        rw [e, hsz]
        exact inner i hi
      · refine hacc j i ?_
        rw [Array.getD_eq_getD_getElem?]
        exact hi)
  exact key.2

def topoB (ops : Array Oper) : Nat → List Nat → Bool
  | _, [] => true
  | s, i :: l => (match ops[i]? with | some o => o.after.all (fun e => !Region.binds .any e || Nat.testBit s e.on) | none => false) && topoB ops (s ||| 2 ^ i) l
theorem topoB_spec (ops : Array Oper) : ∀ (l : List Nat) (s : Nat), topoB ops s l = true → ∀ (k j : Nat) (o : Oper) (e : Edge), l[k]? = some j → ops[j]? = some o → e ∈ o.after → Region.binds .any e = true → Nat.testBit s e.on = true ∨ ∃ k' : Nat, k' < k ∧ l[k']? = some e.on
  | [], s, _, k, j, o, e, hk, _, _, _ => by simp at hk
  | i :: l, s, h, k, j, o, e, hk, ho, he, hb => by
    simp only [topoB, Bool.and_eq_true] at h
    cases k with
    | zero =>
      simp at hk; subst hk
      rw [ho] at h
      have := Array.all_eq_true_iff_forall_mem.1 h.1 e he
      simp only [hb, Bool.not_true, Bool.false_or] at this
      exact .inl this
    | succ k =>
      rcases topoB_spec ops l _ h.2 k j o e (by simpa using hk) ho he hb with h1 | ⟨k', h1, h2⟩
      · simp only [Nat.testBit_or, Bool.or_eq_true] at h1
        rcases h1 with h1 | h1
        · exact .inl h1
        · rw [Nat.testBit_two_pow] at h1
          have : i = e.on := by simpa using h1
          exact .inr ⟨0, by omega, by simp [this]⟩
      · exact .inr ⟨k' + 1, by omega, by simpa using h2⟩
def waitsB (pm : Array Nat) : List Nat → List Nat → Bool
  | _, [] => true
  | done, b :: l => done.all (fun i => Nat.testBit (pm.getD b 0) i) && waitsB pm (b :: done) l
theorem waitsB_spec (pm : Array Nat) : ∀ (l done : List Nat), waitsB pm done l = true → ∀ (k b : Nat), l[k]? = some b → (∀ i ∈ done, Nat.testBit (pm.getD b 0) i = true) ∧ ∀ (k' i : Nat), k' < k → l[k']? = some i → Nat.testBit (pm.getD b 0) i = true
  | [], _, _, k, b, hk => by simp at hk
  | x :: l, done, h, k, b, hk => by
    simp only [waitsB, Bool.and_eq_true] at h
    cases k with
    | zero =>
      simp at hk; subst hk
      exact ⟨fun i hi => List.all_eq_true.1 h.1 i hi, fun k' i hk' => by omega⟩
    | succ k =>
      obtain ⟨h1, h2⟩ := waitsB_spec pm l (x :: done) h.2 k b (by simpa using hk)
      refine ⟨fun i hi => h1 i (List.mem_cons_of_mem _ hi), fun k' i hk' hi => ?_⟩
      cases k' with
      | zero => simp at hi; subst hi; exact h1 _ List.mem_cons_self
      | succ k' => exact h2 k' i (by omega) (by simpa using hi)
def looksB (ops : Array Oper) (pm : Array Nat) : Bool :=
  (List.range ops.size).all fun j => match ops[j]? with
    | some o => (o.looksAt ops).all fun t => (List.range ops.size).all fun i => match ops[i]? with
      | some oi => oi.dst != some t || i == j || Nat.testBit (pm.getD j 0) i || Nat.testBit (pm.getD i 0) j
      | none => true
    | none => true
theorem nodupB_spec : ∀ {l : List Nat}, nodupB l = true → ∀ (k k' j : Nat), l[k]? = some j → l[k']? = some j → k = k'
  | [], _, k, k', j, hk, _ => by simp at hk
  | x :: l, h, k, k', j, hk, hk' => by
    simp only [nodupB, Bool.and_eq_true, Bool.not_eq_true', List.contains_eq_mem, decide_eq_false_iff_not] at h
    cases k with
    | zero =>
      cases k' with
      | zero => rfl
      | succ k' =>
        simp at hk hk'
        subst hk
        exact absurd (List.mem_of_getElem? hk') h.1
    | succ k =>
      cases k' with
      | zero =>
        simp at hk hk'
        subst hk'
        exact absurd (List.mem_of_getElem? hk) h.1
      | succ k' => rw [nodupB_spec h.2 k k' j (by simpa using hk) (by simpa using hk')]
/-- May a region be run in this order, whatever order is drawn? -/
def drawOK (Γ : FuncId → Option FSig) (ops : Array Oper) (F A B : List Nat) : Bool :=
  let ord := A ++ (F ++ B)
  let pm := preMasks ops
  nodupB ord && (List.range ops.size).all (fun j => ord.contains j) && nodupB (ops.toList.filterMap (·.dst)) &&
  (A ++ F).all (fun i => match ops[i]? with | some o => quietA Γ o | none => false) &&
  F.all (fun i => match ops[i]? with | some o => floatB o || loadB o | none => false) &&
  topoB ops 0 ord && looksB ops pm && waitsB pm A B

/-- What is told of an order. -/
structure DCtx (Γ : FuncId → Option FSig) (ops : Array Oper) (ord : List Nat) (nF nA : Nat) : Prop where
  nd : ∀ (k k' j : Nat), ord[k]? = some j → ord[k']? = some j → k = k'
  all : ∀ j, j < ops.size → ∃ k : Nat, ord[k]? = some j
  dst : ∀ (i j : Nat) (oi oj : Oper) (t : Nat), ops[i]? = some oi → ops[j]? = some oj → oi.dst = some t → oj.dst = some t → i = j
  q : ∀ (k j : Nat) (o : Oper), k < nA → ord[k]? = some j → ops[j]? = some o → quietA Γ o = true
  fl : ∀ (k j : Nat) (o : Oper), nF ≤ k → k < nA → ord[k]? = some j → ops[j]? = some o → floatB o = true ∨ loadB o = true
  topo : ∀ (k j : Nat) (o : Oper) (e : Edge), ord[k]? = some j → ops[j]? = some o → e ∈ o.after → Region.binds .any e = true → ∃ k' : Nat, k' < k ∧ ord[k']? = some e.on
  look : ∀ (j : Nat) (o : Oper) (t i : Nat) (oi : Oper), ops[j]? = some o → t ∈ o.looksAt ops → ops[i]? = some oi → oi.dst = some t → i = j ∨ Pre ops j i ∨ Pre ops i j
  wait : ∀ (k j : Nat), nA ≤ k → ord[k]? = some j → ∀ (k' i : Nat), (k' < nF ∨ nA ≤ k') → k' < k → ord[k']? = some i → Pre ops j i
  le : nF ≤ nA
  len : nA ≤ ord.length
theorem filterMap_dst_nodup {ops : Array Oper} (h : nodupB (ops.toList.filterMap (·.dst)) = true) : ∀ (i j : Nat) (oi oj : Oper) (t : Nat), ops[i]? = some oi → ops[j]? = some oj → oi.dst = some t → oj.dst = some t → i = j := by
  have key : ∀ (l : List Oper), nodupB (l.filterMap (·.dst)) = true → ∀ (i j : Nat) (oi oj : Oper) (t : Nat), l[i]? = some oi → l[j]? = some oj → oi.dst = some t → oj.dst = some t → i = j := by
    intro l
    induction l with
    | nil => intro _ i j oi oj t hi; simp at hi
    | cons x l ih =>
      intro h i j oi oj t hi hj h1 h2
      have hin : ∀ (i : Nat) (o : Oper), l[i]? = some o → o.dst = some t → t ∈ l.filterMap (·.dst) := fun i o hi ho => List.mem_filterMap.2 ⟨o, List.mem_of_getElem? hi, ho⟩
      cases i with
      | zero =>
        cases j with
        | zero => rfl
        | succ j =>
          simp at hi hj; subst hi
          simp only [List.filterMap_cons, h1, nodupB, Bool.and_eq_true, Bool.not_eq_true', List.contains_eq_mem, decide_eq_false_iff_not] at h
          exact absurd (hin j oj hj h2) h.1
      | succ i =>
        have htail : nodupB (l.filterMap (·.dst)) = true := by
          simp only [List.filterMap_cons] at h
          split at h
          · exact h
          · simp only [nodupB, Bool.and_eq_true] at h; exact h.2
        cases j with
        | zero =>
          simp at hi hj; subst hj
          simp only [List.filterMap_cons, h2, nodupB, Bool.and_eq_true, Bool.not_eq_true', List.contains_eq_mem, decide_eq_false_iff_not] at h
          exact absurd (hin i oi hi h1) h.1
        | succ j => rw [ih htail i j oi oj t (by simpa using hi) (by simpa using hj) h1 h2]
  intro i j oi oj t hi hj
  exact key ops.toList h i j oi oj t (by simpa using hi) (by simpa using hj)
theorem drawOK_spec {Γ : FuncId → Option FSig} {ops : Array Oper} {F A B : List Nat} (h : drawOK Γ ops F A B = true) : DCtx Γ ops (A ++ (F ++ B)) A.length (A ++ F).length := by
  simp only [drawOK, Bool.and_eq_true] at h
  obtain ⟨⟨⟨⟨⟨⟨⟨h1, h2⟩, h3⟩, h4⟩, h5⟩, h6⟩, h7⟩, h8⟩ := h
  have hpm := preMasks_spec ops
  refine ⟨nodupB_spec h1, fun j hj => ?_, filterMap_dst_nodup h3, fun k j o hk hj ho => ?_, fun k j o hk1 hk hj ho => ?_, fun k j o e hk ho he hb => ?_, fun j o t i oi ho ht hi hd => ?_, fun k j hk hj k' i hk' hlt hi => ?_, by simp, by simp⟩
  · have := List.all_eq_true.1 h2 j (List.mem_range.2 hj)
    rw [List.contains_eq_mem, decide_eq_true_eq] at this
    exact List.mem_iff_getElem?.1 this
  · have hm : j ∈ A ++ F := by
      have : (A ++ F)[k]? = some j := by
        rw [← List.append_assoc, List.getElem?_append_left hk] at hj; exact hj
      exact List.mem_of_getElem? this
    have := List.all_eq_true.1 h4 j hm
    rwa [ho] at this
  · have hm : j ∈ F := by
      rw [← List.append_assoc, List.getElem?_append_left hk, List.getElem?_append_right hk1] at hj
      exact List.mem_of_getElem? hj
    have := List.all_eq_true.1 h5 j hm
    rw [ho] at this
    simpa using this
  · rcases topoB_spec ops _ 0 h6 k j o e hk ho he hb with h9 | h9
    · simp at h9
    · exact h9
  · have hlt : ∀ {i : Nat} {o : Oper}, ops[i]? = some o → i ∈ List.range ops.size := fun h => List.mem_range.2 (Array.getElem?_eq_some_iff.1 h).1
    have a1 := List.all_eq_true.1 h7 j (hlt ho)
    rw [ho] at a1
    have a2 := List.all_eq_true.1 a1 t ht
    have a3 := List.all_eq_true.1 a2 i (hlt hi)
    rw [hi] at a3
    simp only [hd, bne_self_eq_false, Bool.false_or, Bool.or_eq_true, beq_iff_eq] at a3
    rcases a3 with (a3 | a3) | a3
    · exact .inl a3
    · exact .inr (.inl (hpm _ _ a3))
    · exact .inr (.inr (hpm _ _ a3))
  · rw [← List.append_assoc] at hj hi
    rw [List.getElem?_append_right hk] at hj
    obtain ⟨w1, w2⟩ := waitsB_spec _ B A h8 _ _ hj
    rcases hk' with h9 | h9
    · rw [List.getElem?_append_left (by rw [List.length_append]; omega), List.getElem?_append_left h9] at hi
      exact hpm _ _ (w1 i (List.mem_of_getElem? hi))
    · rw [List.getElem?_append_right h9] at hi
      exact hpm _ _ (w2 _ i (by omega) hi)
theorem Pre.pos {Γ : FuncId → Option FSig} {ops : Array Oper} {ord : List Nat} {nF nA : Nat} (D : DCtx Γ ops ord nF nA) {j i : Nat} (p : Pre ops j i) : ∀ k : Nat, ord[k]? = some j → ∃ k' : Nat, k' < k ∧ ord[k']? = some i := by
  induction p with
  | edge h he hb => exact fun k hk => D.topo k _ _ _ hk h he hb
  | trans h he hb _ ih =>
    intro k hk
    obtain ⟨k1, h1, h2⟩ := D.topo k _ _ _ hk h he hb
    obtain ⟨k2, h3, h4⟩ := ih k1 h2
    exact ⟨k2, by omega, h4⟩
end Go.AM

/- The abstract machine's regions against the model's, fifth part: whatever order is drawn, it comes to the same. -/
set_option linter.unusedVariables false
set_option linter.unusedSimpArgs false
namespace Go.AM
open Go.RowKit

/-- What is looked for at a place. -/
def okAt (S : List Nat) (nF nA k : Nat) : Oper → List PV → Bool := if k < nF then okA else if k < nA then okFS S else okBS S

/-- The machine's own run of a region. -/
structure Trc (P : Program) (Γ : FuncId → Option FSig) (C : IV → List Nat → List (List IV) → Option (List IV)) (ops : Array Oper) (ord : List Nat) (nF nA : Nat) (S : List Nat) (sts : Nat → St) (ps : Nat → PV) (gs : Nat → Bool) : Prop where
  step : ∀ (k j : Nat), ord[k]? = some j → ∃ o : Oper, ops[j]? = some o ∧ guardVal ops o (sts k).fr = some (gs k) ∧ (gs k = true → stepD P Γ C o (sts k) = some (ps k, (sts (k + 1)).h)) ∧ (gs k = false → ps k = .skip ∧ (sts (k + 1)).h = (sts k).h) ∧
    (sts (k + 1)).fr = setDst (sts k).fr o.dst (ps k) ∧ okAt S nF nA k o (sts k).fr = true
def consF {α : Type} (x : α) (f : Nat → α) : Nat → α
  | 0 => x
  | n + 1 => f n
section
variable {P : Program} {Γ : FuncId → Option FSig} {C : IV → List Nat → List (List IV) → Option (List IV)} {ops : Array Oper} {R : Type}
theorem Trc.cons {S : List Nat} {l : List Nat} {nF nF' nA nA' : Nat} {sts : Nat → St} {ps : Nat → PV} {gs : Nat → Bool} (T : Trc P Γ C ops l nF nA S sts ps gs) {st : St} {j : Nat} {o : Oper} {p : PV} {b : Bool} (ho : ops[j]? = some o) (hg : guardVal ops o st.fr = some b) (h1 : b = true → stepD P Γ C o st = some (p, (sts 0).h)) (h2 : b = false → p = .skip ∧ (sts 0).h = st.h)
    (h3 : (sts 0).fr = setDst st.fr o.dst p) (h4 : okAt S nF' nA' 0 o st.fr = true) (h5 : nF = nF' - 1) (h7 : nA = nA' - 1) : Trc P Γ C ops (j :: l) nF' nA' S (consF st sts) (consF p ps) (consF b gs) := by
  refine ⟨fun k i hk => ?_⟩
  cases k with
  | zero => simp at hk; subst hk; exact ⟨o, ho, hg, h1, h2, h3, h4⟩
  | succ k =>
    obtain ⟨o', a1, a2, a3, a4, a5, a6⟩ := T.step k i (by simpa using hk)
    refine ⟨o', a1, a2, a3, a4, a5, ?_⟩
    have : okAt S nF' nA' (k + 1) = okAt S nF nA k := by
      have e1 : (k + 1 < nF') ↔ k < nF := by omega
      have e2 : (k + 1 < nA') ↔ k < nA := by omega
      simp only [okAt, e1, e2]
    rw [this]; exact a6
theorem trace_B {S : List Nat} {k : St → Option R} {r : R} : ∀ (l : List Nat) (st : St), (∀ j ∈ l, j < ops.size) → execF P Γ C (okBS S) ops (l.filterMap (ops[·]?)) st k = some r → ∃ sts ps gs, sts 0 = st ∧ Trc P Γ C ops l 0 0 S sts ps gs ∧ k (sts l.length) = some r
  | [], st, _, hs => ⟨fun _ => st, fun _ => .undef, fun _ => true, rfl, ⟨fun k j hk => by simp at hk⟩, hs⟩
  | j :: l, st, hl, hs => by
    have hj : ops[j]? = some (ops[j]'(hl j List.mem_cons_self)) := Array.getElem?_eq_getElem (hl j List.mem_cons_self)
    have hf : (j :: l).filterMap (ops[·]?) = ops[j]'(hl j List.mem_cons_self) :: l.filterMap (ops[·]?) := by simp [List.filterMap_cons, hj]
    rw [hf] at hs
    simp only [execF] at hs
    split at hs
    · rename_i hok
      obtain ⟨b, hg, hcase⟩ := execOp1_spec hs
      rcases hcase with ⟨rfl, p, h', hst, hrest⟩ | ⟨rfl, hrest⟩
      · obtain ⟨sts, ps, gs, h0, T, hk⟩ := trace_B l _ (fun i hi => hl i (List.mem_cons_of_mem _ hi)) hrest
        exact ⟨_, _, _, rfl, T.cons hj hg (fun _ => by rw [h0]; exact hst) (fun h => by cases h) (by rw [h0]) hok rfl rfl, hk⟩
      · obtain ⟨sts, ps, gs, h0, T, hk⟩ := trace_B l _ (fun i hi => hl i (List.mem_cons_of_mem _ hi)) hrest
        exact ⟨_, _, _, rfl, T.cons (p := .skip) hj hg (fun h => by cases h) (fun _ => ⟨rfl, by rw [h0]⟩) (by rw [h0]) hok rfl rfl, hk⟩
    · cases hs
theorem trace_F {S : List Nat} {k : St → Option R} {r : R} {l : List Nat} (hl : ∀ j ∈ l, j < ops.size) : ∀ (F : List Nat) (st : St), (∀ j ∈ F, j < ops.size) → execF P Γ C (okFS S) ops (F.filterMap (ops[·]?)) st (fun st' => execF P Γ C (okBS S) ops (l.filterMap (ops[·]?)) st' k) = some r →
    ∃ sts ps gs, sts 0 = st ∧ Trc P Γ C ops (F ++ l) 0 F.length S sts ps gs ∧ k (sts (F ++ l).length) = some r
  | [], st, _, hs => trace_B l st hl hs
  | j :: F, st, hF, hs => by
    have hj : ops[j]? = some (ops[j]'(hF j List.mem_cons_self)) := Array.getElem?_eq_getElem (hF j List.mem_cons_self)
    have hf : (j :: F).filterMap (ops[·]?) = ops[j]'(hF j List.mem_cons_self) :: F.filterMap (ops[·]?) := by simp [List.filterMap_cons, hj]
    rw [hf] at hs
    simp only [execF] at hs
    split at hs
    · rename_i hok
      obtain ⟨b, hg, hcase⟩ := execOp1_spec hs
      rcases hcase with ⟨rfl, p, h', hst, hrest⟩ | ⟨rfl, hrest⟩
      · obtain ⟨sts, ps, gs, h0, T, hk⟩ := trace_F hl F _ (fun i hi => hF i (List.mem_cons_of_mem _ hi)) hrest
        exact ⟨_, _, _, rfl, T.cons hj hg (fun _ => by rw [h0]; exact hst) (fun h => by cases h) (by rw [h0]) (by simpa [okAt] using hok) rfl (by simp), hk⟩
      · obtain ⟨sts, ps, gs, h0, T, hk⟩ := trace_F hl F _ (fun i hi => hF i (List.mem_cons_of_mem _ hi)) hrest
        exact ⟨_, _, _, rfl, T.cons (p := .skip) hj hg (fun h => by cases h) (fun _ => ⟨rfl, by rw [h0]⟩) (by rw [h0]) (by simpa [okAt] using hok) rfl (by simp), hk⟩
    · cases hs
theorem trace_rg {SS : List PV → List Nat} {k : St → Option R} {r : R} {l F : List Nat} (hl : ∀ j ∈ l, j < ops.size) (hF : ∀ j ∈ F, j < ops.size) : ∀ (A : List Nat) (st : St), (∀ j ∈ A, j < ops.size) → execF P Γ C okA ops (A.filterMap (ops[·]?)) st (fun st1 => execF P Γ C (okFS (SS st1.fr)) ops (F.filterMap (ops[·]?)) st1 fun st2 => execF P Γ C (okBS (SS st1.fr)) ops (l.filterMap (ops[·]?)) st2 k) = some r →
    ∃ S sts ps gs, sts 0 = st ∧ Trc P Γ C ops (A ++ (F ++ l)) A.length (A ++ F).length S sts ps gs ∧ k (sts (A ++ (F ++ l)).length) = some r
  | [], st, _, hs => ⟨SS st.fr, trace_F hl F st hF hs⟩
  | j :: A, st, hA, hs => by
    have hj : ops[j]? = some (ops[j]'(hA j List.mem_cons_self)) := Array.getElem?_eq_getElem (hA j List.mem_cons_self)
    have hf : (j :: A).filterMap (ops[·]?) = ops[j]'(hA j List.mem_cons_self) :: A.filterMap (ops[·]?) := by simp [List.filterMap_cons, hj]
    rw [hf] at hs
    simp only [execF] at hs
    split at hs
    · rename_i hok
      obtain ⟨b, hg, hcase⟩ := execOp1_spec hs
      rcases hcase with ⟨rfl, p, h', hst, hrest⟩ | ⟨rfl, hrest⟩
      · obtain ⟨S, sts, ps, gs, h0, T, hk⟩ := trace_rg hl hF A _ (fun i hi => hA i (List.mem_cons_of_mem _ hi)) hrest
        exact ⟨S, _, _, _, rfl, T.cons hj hg (fun _ => by rw [h0]; exact hst) (fun h => by cases h) (by rw [h0]) (by simpa [okAt] using hok) (by simp) (by simp), hk⟩
      · obtain ⟨S, sts, ps, gs, h0, T, hk⟩ := trace_rg hl hF A _ (fun i hi => hA i (List.mem_cons_of_mem _ hi)) hrest
        exact ⟨S, _, _, _, rfl, T.cons (p := .skip) hj hg (fun h => by cases h) (fun _ => ⟨rfl, by rw [h0]⟩) (by rw [h0]) (by simpa [okAt] using hok) (by simp) (by simp), hk⟩
    · cases hs

variable {ord : List Nat} {nF nA : Nat} {S : List Nat} {sts : Nat → St} {ps : Nat → PV} {gs : Nat → Bool}
theorem setDst_length (fr : List PV) (d : Option Tmp) (p : PV) : (setDst fr d p).length = fr.length := by cases d <;> simp [setDst]
theorem setDst_ne {fr : List PV} {d : Option Tmp} {p : PV} {t : Nat} (h : d ≠ some t) : (setDst fr d p).getD t .undef = fr.getD t .undef := by
  cases d with
  | none => rfl
  | some d =>
    have : d ≠ t := fun e => h (by rw [e])
    simp [setDst, List.getD_eq_getElem?_getD, List.getElem?_set_ne this]
theorem setDst_eq {fr : List PV} {p : PV} {t : Nat} (h : t < fr.length) : (setDst fr (some t) p).getD t .undef = p := by
  simp [setDst, List.getD_eq_getElem?_getD, List.getElem?_set_self h]
theorem Trc.at (T : Trc P Γ C ops ord nF nA S sts ps gs) {k : Nat} (hk : k < ord.length) : ∃ j, ord[k]? = some j := ⟨ord[k], List.getElem?_eq_getElem hk⟩
theorem Trc.len (T : Trc P Γ C ops ord nF nA S sts ps gs) : ∀ k, k ≤ ord.length → (sts k).fr.length = (sts 0).fr.length
  | 0, _ => rfl
  | k + 1, h => by
    obtain ⟨j, hj⟩ := T.at (k := k) (by omega)
    obtain ⟨o, _, _, _, _, h5, _⟩ := T.step k j hj
    rw [h5, setDst_length]
    exact T.len k (by omega)
theorem Trc.ini (T : Trc P Γ C ops ord nF nA S sts ps gs) {t : Nat} : ∀ k, k ≤ ord.length → (∀ (k' j : Nat) (o : Oper), k' < k → ord[k']? = some j → ops[j]? = some o → o.dst ≠ some t) → (sts k).fr.getD t .undef = (sts 0).fr.getD t .undef
  | 0, _, _ => rfl
  | k + 1, h, hn => by
    obtain ⟨j, hj⟩ := T.at (k := k) (by omega)
    obtain ⟨o, h1, _, _, _, h5, _⟩ := T.step k j hj
    rw [h5, setDst_ne (hn k j o (by omega) hj h1)]
    exact T.ini k (by omega) fun k' j' o' h => hn k' j' o' (by omega)
theorem Trc.fin (T : Trc P Γ C ops ord nF nA S sts ps gs) {t : Nat} : ∀ (d k : Nat), k + d = ord.length → (∀ (k' j : Nat) (o : Oper), k ≤ k' → ord[k']? = some j → ops[j]? = some o → o.dst ≠ some t) → (sts ord.length).fr.getD t .undef = (sts k).fr.getD t .undef
  | 0, k, h, _ => by rw [← h]; rfl
  | d + 1, k, h, hn => by
    obtain ⟨j, hj⟩ := T.at (k := k) (by omega)
    obtain ⟨o, h1, _, _, _, h5, _⟩ := T.step k j hj
    rw [T.fin d (k + 1) (by omega) fun k' j' o' h => hn k' j' o' (by omega), h5, setDst_ne (hn k j o (by omega) hj h1)]
theorem Trc.okA (T : Trc P Γ C ops ord nF nA S sts ps gs) {k j : Nat} {o : Oper} (hk : k < nF) (hj : ord[k]? = some j) (ho : ops[j]? = some o) : okA o (sts k).fr = true := by
  obtain ⟨o', h2, _, _, _, _, h3⟩ := T.step k j hj
  rw [ho] at h2; cases h2
  unfold okAt at h3
  rwa [if_pos hk] at h3
theorem Trc.okFS (T : Trc P Γ C ops ord nF nA S sts ps gs) {k j : Nat} {o : Oper} (hk : nF ≤ k) (hk2 : k < nA) (hj : ord[k]? = some j) (ho : ops[j]? = some o) : okFS S o (sts k).fr = true := by
  obtain ⟨o', h2, _, _, _, _, h3⟩ := T.step k j hj
  rw [ho] at h2; cases h2
  unfold okAt at h3
  rwa [if_neg (by omega), if_pos hk2] at h3
theorem Trc.okBS (T : Trc P Γ C ops ord nF nA S sts ps gs) (hle : nF ≤ nA) {k j : Nat} {o : Oper} (hk : nA ≤ k) (hj : ord[k]? = some j) (ho : ops[j]? = some o) : okBS S o (sts k).fr = true := by
  obtain ⟨o', h2, _, _, _, _, h3⟩ := T.step k j hj
  rw [ho] at h2; cases h2
  unfold okAt at h3
  rwa [if_neg (by omega), if_neg (by omega)] at h3
theorem Trc.quiet (T : Trc P Γ C ops ord nF nA S sts ps gs) (D : DCtx Γ ops ord nF nA) {k j : Nat} {o : Oper} (hk : k < nA) (hj : ord[k]? = some j) (ho : ops[j]? = some o) : quietB Γ o = true ∨ (appB o = true ∧ AM.okA o (sts k).fr = true) := by
  have hq := D.q k j o hk hj ho
  unfold quietA at hq
  rcases Nat.lt_or_ge k nF with h1 | h1
  · cases hb : quietB Γ o with
    | true => exact .inl rfl
    | false =>
      rw [hb, Bool.false_or] at hq
      exact .inr ⟨hq, T.okA h1 hj ho⟩
  · rcases D.fl k j o h1 hk hj ho with h2 | h2
    · exact .inl (float_quiet h2)
    · exact .inl (load_quiet h2)
/-- What floats leaves all objects as they are. -/
theorem Trc.sameF (T : Trc P Γ C ops ord nF nA S sts ps gs) (D : DCtx Γ ops ord nF nA) {k j : Nat} (hk : nF ≤ k) (hk2 : k < nA) (hj : ord[k]? = some j) : (sts (k + 1)).h = (sts k).h := by
  obtain ⟨o, h1, _, h3, h4, _⟩ := T.step k j hj
  cases hg : gs k with
  | false => exact (h4 hg).2
  | true =>
    have hok := T.okFS hk hk2 hj h1
    exact (stepD_F (D.fl k j o hk hk2 hj h1) hok (show stepD P Γ C o ⟨(sts k).fr, (sts k).h⟩ = _ from h3 hg) (sts k).h fun _ _ => rfl).1
theorem Trc.sameFs (T : Trc P Γ C ops ord nF nA S sts ps gs) (D : DCtx Γ ops ord nF nA) : ∀ (d k : Nat), nF ≤ k → k + d ≤ nA → (sts (k + d)).h = (sts k).h
  | 0, k, _, _ => rfl
  | d + 1, k, h, h2 => by
    have hA := D.len
    obtain ⟨j, hj⟩ := T.at (k := k + d) (by omega)
    rw [← T.sameFs D d k h (by omega)]
    exact T.sameF D (k := k + d) (by omega) (by omega) hj
theorem Trc.prot (T : Trc P Γ C ops ord nF nA S sts ps gs) (D : DCtx Γ ops ord nF nA) {q : Nat} (hq : q ∈ S) : ∀ d, nA + d ≤ ord.length → getOb (sts (nA + d)).h q = getOb (sts nA).h q
  | 0, _ => rfl
  | d + 1, h => by
    obtain ⟨j, hj⟩ := T.at (k := nA + d) (by omega)
    obtain ⟨o, h1, _, h3, h4, _⟩ := T.step (nA + d) j hj
    rw [← T.prot D hq d (by omega)]
    cases hg : gs (nA + d) with
    | false => exact congrArg (getOb · q) (h4 hg).2
    | true => exact stepD_okB hq (T.okBS D.le (by omega) hj h1) (show stepD P Γ C o ⟨(sts (nA + d)).fr, (sts (nA + d)).h⟩ = _ from h3 hg)
theorem Trc.sub (T : Trc P Γ C ops ord nF nA S sts ps gs) (D : DCtx Γ ops ord nF nA) : ∀ (d k : Nat), k + d ≤ nA → SubH (sts k).h (sts (k + d)).h
  | 0, k, h => .refl _
  | d + 1, k, h => by
    have hA := D.len
    obtain ⟨j, hj⟩ := T.at (k := k + d) (by omega)
    obtain ⟨o, h1, _, h3, h4, _⟩ := T.step (k + d) j hj
    refine (T.sub D d k (by omega)).trans ?_
    cases hg : gs (k + d) with
    | true => exact stepD_suba (T.quiet D (by omega) hj h1) (h3 hg)
    | false => show SubH _ (sts (k + d + 1)).h; rw [(h4 hg).2]; exact .refl _
theorem Trc.mono (T : Trc P Γ C ops ord nF nA S sts ps gs) : ∀ (d k : Nat), k + d ≤ ord.length → Stay (sts k).h (sts (k + d)).h
  | 0, k, h => .refl _
  | d + 1, k, h => by
    obtain ⟨j, hj⟩ := T.at (k := k + d) (by omega)
    obtain ⟨o, h1, _, h3, h4, _⟩ := T.step (k + d) j hj
    refine (T.mono d k (by omega)).trans ?_
    cases hg : gs (k + d) with
    | true => exact stepD_stay (h3 hg)
    | false => show Stay _ (sts (k + d + 1)).h; rw [(h4 hg).2]; exact .refl _
end

open Classical in
/-- What a temporary holds once some operations are done. -/
 noncomputable def cur (ops : Array Oper) (ini fin : List PV) (listed : Array Bool) (t : Nat) : PV :=
  if ∃ (i : Nat) (oi : Oper), ops[i]? = some oi ∧ oi.dst = some t ∧ listed.getD i false = true then fin.getD t .undef else ini.getD t .undef
theorem cur_fin {ops : Array Oper} {ini fin : List PV} {listed : Array Bool} {t : Nat} {i : Nat} {oi : Oper} (h1 : ops[i]? = some oi) (h2 : oi.dst = some t) (h3 : listed.getD i false = true) : cur ops ini fin listed t = fin.getD t .undef := if_pos ⟨i, oi, h1, h2, h3⟩
theorem cur_ini {ops : Array Oper} {ini fin : List PV} {listed : Array Bool} {t : Nat} (h : ∀ (i : Nat) (oi : Oper), ops[i]? = some oi → oi.dst = some t → listed.getD i false = true → False) : cur ops ini fin listed t = ini.getD t .undef := if_neg fun ⟨i, oi, h1, h2, h3⟩ => h i oi h1 h2 h3
theorem Inv.subH {w0 : World} {ok0 : O0} {w : World} {ok : Nat → Prop} {mu : Mu} {h H : List Ob} (i : Inv w0 ok0 w ok mu h) (hfresh : ∀ q, h.length ≤ q → mu q = none) (s : SubH h H) : Inv w0 ok0 w ok mu H := by
  have hlt : ∀ {o pl}, mu o = some pl → o < h.length := fun {o pl} ho => by
    rcases Nat.lt_or_ge o h.length with h1 | h1
    · exact h1
    · rw [hfresh o h1] at ho; cases ho
  refine ⟨i.below, i.okw, i.okb, fun o pl ho => (s.same o (hlt ho)).okR (i.ob o pl ho), fun o pl b base ho hb => ?_, fun o o' pl pl' b base base' ho ho' hb hb' hlv hlv' => ?_⟩
  · obtain ⟨h1, h2, h3⟩ := i.own o pl b base ho hb
    refine ⟨h1, h2, fun hlv hnf => h3 ?_ ?_⟩
    · rw [← (s.same o (hlt ho)).live]; exact hlv
    · cases hx : (getOb h o).fz with
      | false => rfl
      | true => rw [(s.same o (hlt ho)).fz hx] at hnf; cases hnf
  · exact i.inj o o' pl pl' b base base' ho ho' hb hb' (by rw [← (s.same o (hlt ho)).live]; exact hlv) (by rw [← (s.same o' (hlt ho')).live]; exact hlv')
theorem Inv.drawn {w0 : World} {ok0 : O0} {w : World} {ok : Nat → Prop} {mu : Mu} {h : List Ob} (i : Inv w0 ok0 w ok mu h) (d : Nat) : Inv w0 ok0 { w with drawn := d } ok mu h ∧ Later w ok mu { w with drawn := d } ok mu := by
  have hl : Later w ok mu { w with drawn := d } ok mu := ⟨⟨fun _ _ => rfl, fun _ h => h⟩, fun _ _ h => h, fun b c T h => ⟨c, h, rfl⟩⟩
  exact ⟨⟨⟨i.below.os, i.below.tape, i.below.output, i.below.size, i.below.block⟩, i.okw, i.okb, fun o pl ho => (i.ob o pl ho).later hl fun _ _ _ => rfl, i.own, i.inj⟩, hl⟩

structure DInv (P : Program) (ops : Array Oper) (ord : List Nat) (nA : Nat) (sts : Nat → St) (w0 : World) (ok0 : O0) (wS : World) (okS : Nat → Prop) (muS : Mu) (aS : Act) (listed : Array Bool) (a : Act) (w : World) : Prop where
  size : listed.size = ops.size
  closed : ∀ (j : Nat) (o : Oper), ops[j]? = some o → listed.getD j false = true → ∀ e ∈ o.after, Region.binds .any e = true → listed.getD e.on false = true
  tsize : a.tmps.size = (sts 0).fr.length
  defers : a.defers = aS.defers
  same : ∀ t, t ∉ dsts ops.toList → a.tmps[t]? = aS.tmps[t]?
  ex : ∃ (ok : Nat → Prop) (mu : Mu) (m : Nat), nA ≤ m ∧ m ≤ ord.length ∧ (∀ (k j : Nat), nA ≤ k → ord[k]? = some j → (listed.getD j false = true ↔ k < m)) ∧ Inv w0 ok0 w ok mu (sts m).h ∧ (∀ o, (sts m).h.length ≤ o → mu o = none) ∧
    (m = nA → ∀ o, mu o ≠ none → o < (sts 0).h.length ∨ ∃ k j : Nat, k < nA ∧ ord[k]? = some j ∧ listed.getD j false = true ∧ (sts k).h.length = o ∧ (sts (k + 1)).h.length = o + 1) ∧
    (∀ (t : Nat) (v : Value), a.tmps[t]? = some v → RP w ok mu (cur ops (sts 0).fr (sts ord.length).fr listed t) v) ∧ Later wS okS muS w ok mu
end Go.AM

/- The abstract machine's regions against the model's, sixth part: one operation that is drawn; and a whole region. -/
set_option linter.unusedVariables false
set_option linter.unusedSimpArgs false
namespace Go.AM
open Go.RowKit

section
variable {P : Program} {Γ : FuncId → Option FSig} {C : IV → List Nat → List (List IV) → Option (List IV)} {ops : Array Oper} {ord : List Nat} {nF nA : Nat} {S : List Nat} {sts : Nat → St} {ps : Nat → PV} {gs : Nat → Bool}
  {w0 : World} {ok0 : O0} {wS : World} {okS : Nat → Prop} {muS : Mu} {aS : Act}

theorem pre_listed {listed : Array Bool} (hc : ∀ (j : Nat) (o : Oper), ops[j]? = some o → listed.getD j false = true → ∀ e ∈ o.after, Region.binds .any e = true → listed.getD e.on false = true) {j i : Nat} (p : Pre ops j i) : listed.getD j false = true → listed.getD i false = true := by
  induction p with
  | edge h he hb => exact fun hl => hc _ _ h hl _ he hb
  | trans h he hb _ ih => exact fun hl => ih (hc _ _ h hl _ he hb)
theorem pre_ready {listed : Array Bool} (hc : ∀ (j : Nat) (o : Oper), ops[j]? = some o → listed.getD j false = true → ∀ e ∈ o.after, Region.binds .any e = true → listed.getD e.on false = true) {j i : Nat} (hr : ∀ o, ops[j]? = some o → ∀ e ∈ o.after, Region.binds .any e = true → listed.getD e.on false = true) (p : Pre ops j i) : listed.getD i false = true := by
  cases p with
  | edge h he hb => exact hr _ h _ he hb
  | trans h he hb q => exact pre_listed hc q (hr _ h _ he hb)
theorem set_listed {listed : Array Bool} {j i : Nat} : (listed.setIfInBounds j true).getD i false = true ↔ listed.getD i false = true ∨ (i = j ∧ j < listed.size) := by
  rw [Array.getD_eq_getD_getElem?, Array.getElem?_setIfInBounds, Array.getD_eq_getD_getElem?]
  by_cases e : j = i
  · subst e
    by_cases hl : j < listed.size
    · simp [hl]
    · simp [hl]
  · simp [e, Ne.symm e]
theorem cur_set {listed : Array Bool} {ini fin : List PV} {j : Nat} {o : Oper} (ho : ops[j]? = some o) {t : Nat} (ht : o.dst ≠ some t) : cur ops ini fin (listed.setIfInBounds j true) t = cur ops ini fin listed t := by
  unfold cur
  congr 1
  apply propext
  constructor
  · rintro ⟨i, oi, h1, h2, h3⟩
    rcases set_listed.1 h3 with h4 | ⟨rfl, _⟩
    · exact ⟨i, oi, h1, h2, h4⟩
    · rw [ho] at h1; cases h1; exact absurd h2 ht
  · rintro ⟨i, oi, h1, h2, h3⟩
    exact ⟨i, oi, h1, h2, set_listed.2 (.inl h3)⟩

/-- The operation's own frame: what it looks at is as it was in the machine's run. -/
theorem look_cur (T : Trc P Γ C ops ord nF nA S sts ps gs) (D : DCtx Γ ops ord nF nA) {listed : Array Bool} (hc : ∀ (j : Nat) (o : Oper), ops[j]? = some o → listed.getD j false = true → ∀ e ∈ o.after, Region.binds .any e = true → listed.getD e.on false = true)
    {k j : Nat} {o : Oper} (hk : ord[k]? = some j) (ho : ops[j]? = some o) (hun : listed.getD j false = false) (hr : ∀ e ∈ o.after, Region.binds .any e = true → listed.getD e.on false = true) {t : Nat} (ht : t ∈ o.looksAt ops) :
    (sts k).fr.getD t .undef = cur ops (sts 0).fr (sts ord.length).fr listed t := by
  have hkl : k < ord.length := (List.getElem?_eq_some_iff.1 hk).1
  by_cases hw : ∃ (i : Nat) (oi : Oper), ops[i]? = some oi ∧ oi.dst = some t
  · obtain ⟨i, oi, hi, hd⟩ := hw
    obtain ⟨ki, hki⟩ := D.all i (Array.getElem?_eq_some_iff.1 hi).1
    have uniq : ∀ {i' : Nat} {oi' : Oper}, ops[i']? = some oi' → oi'.dst = some t → i' = i := fun h1 h2 => D.dst _ _ _ _ t h1 hi h2 hd
    have early : k ≤ ki → (sts k).fr.getD t .undef = (sts 0).fr.getD t .undef := fun hle => T.ini k (by omega) fun k' j' o' h1 h2 h3 h4 => by
      have := uniq h3 h4; subst this
      have := D.nd k' ki j' h2 hki; omega
    rcases D.look j o t i oi ho ht hi hd with h1 | h1 | h1
    · subst h1
      have := D.nd k ki i hk hki
      rw [early (by omega), cur_ini fun i' oi' h1 h2 h3 => by have := uniq h1 h2; subst this; rw [hun] at h3; cases h3]
    · have hli := pre_ready hc (fun o' ho' => by rw [ho] at ho'; cases ho'; exact hr) h1
      obtain ⟨k1, hk1, hk2⟩ := h1.pos D k hk
      have := D.nd k1 ki i hk2 hki
      rw [cur_fin hi hd hli]
      exact (T.fin (ord.length - k) k (by omega) fun k' j' o' h1 h2 h3 h4 => by
        have := uniq h3 h4; subst this
        have := D.nd k' ki j' h2 hki; omega).symm
    · obtain ⟨k1, hk1, hk2⟩ := h1.pos D ki hki
      have := D.nd k1 k j hk2 hk
      rw [early (by omega), cur_ini fun i' oi' h2 h3 h4 => by
        have := uniq h2 h3; subst this
        have := pre_listed hc h1 h4
        rw [hun] at this; cases this]
  · rw [cur_ini fun i oi h1 h2 _ => hw ⟨i, oi, h1, h2⟩]
    exact T.ini k (by omega) fun k' j' o' h1 h2 h3 h4 => hw ⟨j', o', h3, h4⟩

/-- What it writes is what the machine's run has there in the end. -/
theorem write_fin (T : Trc P Γ C ops ord nF nA S sts ps gs) (D : DCtx Γ ops ord nF nA) {k j : Nat} {o : Oper} (hk : ord[k]? = some j) (ho : ops[j]? = some o) {t : Nat} (ht : o.dst = some t) (hl : t < (sts 0).fr.length) : (sts ord.length).fr.getD t .undef = ps k := by
  have hkl : k < ord.length := (List.getElem?_eq_some_iff.1 hk).1
  rw [T.fin (ord.length - (k + 1)) (k + 1) (by omega) fun k' j' o' h1 h2 h3 h4 => by
    have := D.dst _ _ _ _ t h3 ho h4 ht; subst this
    have := D.nd k' k j' h2 hk; omega]
  obtain ⟨o', h1, _, _, _, h5, _⟩ := T.step k j hk
  rw [ho] at h1; cases h1
  rw [h5, ht]
  exact setDst_eq (by rw [T.len k (by omega)]; exact hl)

/-- A frame of what is looked at alone. -/
def mask (l : List Nat) (fr : List PV) : List PV := (List.range fr.length).map fun t => if t ∈ l then fr.getD t .undef else .undef
theorem mask_getD {l : List Nat} {fr : List PV} {t : Nat} (ht : t ∈ l) : (mask l fr).getD t .undef = fr.getD t .undef := by
  unfold mask
  simp only [List.getD_eq_getElem?_getD, List.getElem?_map]
  by_cases hl : t < fr.length
  · simp [hl, ht]
  · simp [Nat.le_of_not_lt hl]
theorem mask_ev {o : Oper} {fr : List PV} : ∀ x ∈ o.op.operands, ev fr x = ev (mask (o.looksAt ops) fr) x := by
  intro x hx
  cases x with
  | tmp t =>
    have : t ∈ o.looksAt ops := List.mem_append_left _ (List.mem_filterMap.2 ⟨.tmp t, by simpa using hx, rfl⟩)
    exact (mask_getD this).symm
  | _ => rfl
theorem okA_mask {o : Oper} {fr : List PV} : okA o (mask (o.looksAt ops) fr) = okA o fr := by
  unfold okA
  split
  · rename_i c hop
    split
    · rename_i hc
      split
      · rename_i x l hl
        have hx : x ∈ o.op.operands := by
          rw [hop]
          simp only [Op.operands, Call.operands]
          have : x ∈ c.args := by have h2 : x ∈ c.args.toList := by rw [hl]; simp
                                  simpa using h2
          simp [this]
        rw [← mask_ev (ops := ops) (o := o) x hx]
      · rfl
    · rfl
  · rfl
theorem mask_fr {w : World} {ok : Nat → Prop} {mu : Mu} {l : List Nat} {fr : List PV} {tmps : Array Value} (hsz : fr.length = tmps.size) (h : ∀ (t : Nat) (v : Value), t ∈ l → tmps[t]? = some v → RP w ok mu (fr.getD t .undef) v) : Fr w ok mu (mask l fr) tmps := by
  refine ⟨by simp [mask, hsz], fun t p v h1 h2 => ?_⟩
  unfold mask at h1
  rw [List.getElem?_map] at h1
  cases h3 : (List.range fr.length)[t]? with
  | none => rw [h3] at h1; cases h1
  | some u =>
    rw [h3] at h1
    have hu : t = u := by
      rcases Nat.lt_or_ge t fr.length with h4 | h4
      · rw [List.getElem?_range h4] at h3; exact Option.some.inj h3
      · rw [List.getElem?_eq_none (by simpa using h4)] at h3; cases h3
    subst hu
    simp only [Option.map_some, Option.some.injEq] at h1
    subst h1
    split
    · exact h t v ‹_› h2
    · exact .undef v

theorem draw_step (hΓ : GOK P Γ) (hC : COK P C) (T : Trc P Γ C ops ord nF nA S sts ps gs) (D : DCtx Γ ops ord nF nA) {Q : Exit → Act → World → Prop} {listed : Array Bool} {a : Act} {w : World} (I : DInv P ops ord nA sts w0 ok0 wS okS muS aS listed a w) {j : Nat} (hj : j ∈ Region.ready .any ops listed) :
    wpOp P ops Q j (DInv P ops ord nA sts w0 ok0 wS okS muS aS (listed.setIfInBounds j true)) a w := by
  obtain ⟨hun0, o, ho, hr⟩ := mem_ready.1 hj
  have hjl : j < ops.size := (Array.getElem?_eq_some_iff.1 ho).1
  have hun : listed.getD j false = false := by
    rw [Array.getD_eq_getD_getElem?, Array.getElem?_eq_getElem (by rw [I.size]; exact hjl)] at hun0 ⊢
    exact hun0
  obtain ⟨k, hk⟩ := D.all j hjl
  have hkl : k < ord.length := (List.getElem?_eq_some_iff.1 hk).1
  have hAl := D.len
  obtain ⟨o', ho', hg, hst, hsk, hfr, hokat⟩ := T.step k j hk
  rw [ho] at ho'; cases ho'
  obtain ⟨ok, mu, m, hm1, hm2, hB, hinv, hfresh, hnew, hcur, hlater⟩ := I.ex
  have hlook : ∀ (t : Nat) (v : Value), t ∈ o.looksAt ops → a.tmps[t]? = some v → RP w ok mu ((sts k).fr.getD t .undef) v := fun t v ht hv => by
    rw [look_cur T D I.closed hk ho hun hr ht]; exact hcur t v hv
  have hszk : (sts k).fr.length = a.tmps.size := by rw [T.len k (by omega), I.tsize]
  have hwant := wanted_of (a := a) (w := w) (ok := ok) (mu := mu) hg (fun s v hs hv => hlook s v (List.mem_append_right _ (by
    unfold Option.bind at hs
    cases hgd : o.guard with
    | none => rw [hgd] at hs; cases hs
    | some gw => rw [hgd] at hs; simp only [Option.mem_toList]; exact hs)) hv) hszk
  -- what is kept, whichever way
  have keep : ∀ (v : Value) (w' : World) (ok' : Nat → Prop) (mu' : Mu) (m' : Nat), nA ≤ m' → m' ≤ ord.length → (∀ (k' j' : Nat), nA ≤ k' → ord[k']? = some j' → ((listed.setIfInBounds j true).getD j' false = true ↔ k' < m')) → Inv w0 ok0 w' ok' mu' (sts m').h → (∀ q, (sts m').h.length ≤ q → mu' q = none) →
      (m' = nA → ∀ q, mu' q ≠ none → q < (sts 0).h.length ∨ ∃ k' j' : Nat, k' < nA ∧ ord[k']? = some j' ∧ (listed.setIfInBounds j true).getD j' false = true ∧ (sts k').h.length = q ∧ (sts (k' + 1)).h.length = q + 1) →
      Later w ok mu w' ok' mu' → RP w' ok' mu' (ps k) v → DInv P ops ord nA sts w0 ok0 wS okS muS aS (listed.setIfInBounds j true) (a.put o.dst v) w' := by
    intro v w' ok' mu' m' c1 c2 c3 c4 c5 c6 c7 c8
    refine ⟨by simp [I.size], fun i oi hi hl e he hb => ?_, ?_, by rw [put_defers', I.defers], fun t ht => ?_, ok', mu', m', c1, c2, c3, c4, c5, c6, fun t u hu => ?_, hlater.trans c7⟩
    · rcases set_listed.1 hl with h1 | ⟨rfl, _⟩
      · exact set_listed.2 (.inl (I.closed i oi hi h1 e he hb))
      · rw [ho] at hi; cases hi
        exact set_listed.2 (.inl (hr e he hb))
    · rw [← I.tsize]; cases o.dst <;> simp [Act.put]
    · rw [put_same fun e => ht (List.mem_filterMap.2 ⟨o, by simpa using Array.mem_of_getElem? ho, e⟩), I.same t ht]
    · by_cases hd : o.dst = some t
      · have htl : t < a.tmps.size := by
          have := (Array.getElem?_eq_some_iff.1 hu).1
          rw [hd] at this
          simpa [Act.put] using this
        have huv : u = v := by
          rw [hd] at hu
          simp [Act.put, Array.getElem?_setIfInBounds, htl] at hu
          exact hu.symm
        subst huv
        rw [cur_fin ho hd (set_listed.2 (.inr ⟨rfl, by rw [I.size]; exact hjl⟩)), write_fin T D hk ho hd (by rw [← I.tsize]; exact htl)]
        exact c8
      · rw [put_same hd] at hu
        rw [cur_set ho hd]
        exact (hcur t u hu).later c7
  have hBset : ∀ m', (∀ (k' j' : Nat), nA ≤ k' → ord[k']? = some j' → k' ≠ k → (k' < m' ↔ k' < m)) → (nA ≤ k → k < m') → ∀ (k' j' : Nat), nA ≤ k' → ord[k']? = some j' → ((listed.setIfInBounds j true).getD j' false = true ↔ k' < m') := by
    intro m' h1 h2 k' j' hk' hj'
    rw [set_listed]
    by_cases e : k' = k
    · subst e
      rw [hk] at hj'; cases hj'
      exact ⟨fun _ => h2 hk', fun _ => .inr ⟨rfl, by rw [I.size]; exact hjl⟩⟩
    · rw [h1 k' j' hk' hj' e, ← hB k' j' hk' hj']
      constructor
      · rintro (h | ⟨rfl, _⟩)
        · exact h
        · exact absurd (D.nd k' k j' hj' hk) e
      · exact .inl
  have hnew' : (m = nA → ∀ q, mu q ≠ none → q < (sts 0).h.length ∨ ∃ k' j' : Nat, k' < nA ∧ ord[k']? = some j' ∧ (listed.setIfInBounds j true).getD j' false = true ∧ (sts k').h.length = q ∧ (sts (k' + 1)).h.length = q + 1) := fun hm q hq => by
    rcases hnew hm q hq with h1 | ⟨k', j', h1, h2, h3, h4, h5⟩
    · exact .inl h1
    · exact .inr ⟨k', j', h1, h2, set_listed.2 (.inl h3), h4, h5⟩
  -- where it stands
  have hwaits : ∀ b jb, nA ≤ b → ord[b]? = some jb → (listed.getD jb false = true ∨ jb = j) → ∀ k' i, (k' < nF ∨ nA ≤ k') → k' < b → ord[k']? = some i → listed.getD i false = true := by
    intro b jb hb1 hb2 hb3 k' i h1 h2 h3
    have hp := D.wait b jb hb1 hb2 k' i h1 h2 h3
    rcases hb3 with h4 | rfl
    · exact pre_listed I.closed hp h4
    · exact pre_ready I.closed (fun o' ho' => by rw [ho] at ho'; cases ho'; exact hr) hp
  have hmid : nA ≤ k → k = m := fun hle => by
    rcases Nat.lt_trichotomy k m with h1 | h1 | h1
    · have := (hB k j hle hk).2 h1
      rw [hun] at this; cases this
    · exact h1
    · obtain ⟨jm, hjm⟩ := T.at (k := m) (by omega)
      have := hwaits k j hle hk (.inr rfl) m jm (.inr hm1) h1 hjm
      have := (hB m jm hm1 hjm).1 this
      omega
  unfold wpOp
  rw [ho]
  simp only [hwant]
  cases hgk : gs k with
  | false =>
    obtain ⟨hp, hh⟩ := hsk hgk
    simp only [Bool.false_eq_true, if_false]
    rcases Nat.lt_or_ge k nA with hlt | hge
    · exact keep undef w ok mu m hm1 hm2 (hBset m (fun _ _ _ _ _ => .rfl) (fun h => by omega)) hinv hfresh hnew' (.refl _ _ _) (by rw [hp]; exact .skip)
    · have hkm := hmid hge
      subst hkm
      exact keep undef w ok mu (k + 1) (by omega) (by omega) (hBset (k + 1) (fun k' _ _ _ h => by omega) (fun _ => by omega)) (by rw [hh]; exact hinv) (by rw [hh]; exact hfresh) (fun h => by omega) (.refl _ _ _) (by rw [hp]; exact .skip)
  | true =>
    simp only [if_true]
    left
    have hs := hst hgk
    have hmaskFr : Fr w ok mu (mask (o.looksAt ops) (sts k).fr) a.tmps := mask_fr hszk hlook
    have hs' : ∀ H, stepD P Γ C o ⟨mask (o.looksAt ops) (sts k).fr, H⟩ = stepD P Γ C o ⟨(sts k).fr, H⟩ := fun H => (stepD_congr mask_ev).symm
    rcases Nat.lt_or_ge k nA with hlt | hge
    · have hq := T.quiet D hlt hk ho
      have hqm : quietB Γ o = true ∨ (appB o = true ∧ okA o (mask (o.looksAt ops) (sts k).fr) = true) := hq.imp id fun h => ⟨h.1, by rw [okA_mask]; exact h.2⟩
      by_cases hm : m = nA
      · subst hm
        have hsub := T.sub D (m - k) k (by omega)
        have hsub1 := T.sub D (m - (k + 1)) (k + 1) (by omega)
        rw [show k + (m - k) = m by omega] at hsub
        rw [show k + 1 + (m - (k + 1)) = m by omega] at hsub1
        have iq : InvQ w ok mu (sts k).h := by
          refine ⟨hinv.okw, fun q pl hq => ?_, fun q pl b base h1 h2 => (hinv.own q pl b base h1 h2).2.1⟩
          rcases Nat.lt_or_ge q (sts k).h.length with h1 | h1
          · exact (hsub.same q h1).okL (hinv.ob q pl hq)
          · have : getOb (sts k).h q = .dead := by unfold getOb; rw [List.getD_eq_getElem?_getD, List.getElem?_eq_none h1]; rfl
            rw [this]; trivial
        have hlenk := (stepD_suba hq hs).len
        have hnone : (sts (k + 1)).h.length ≠ (sts k).h.length → mu (sts k).h.length = none := fun hne => by
          cases hmu : mu (sts k).h.length with
          | none => rfl
          | some pl =>
            rcases hnew rfl _ (by rw [hmu]; simp) with h1 | ⟨k', j', h1, h2, h3, h4, h5⟩
            · have := (T.mono k 0 (by omega)).len
              rw [Nat.zero_add] at this
              omega
            · have hne' : k' ≠ k := fun e => by
                subst e
                rw [hk] at h2; cases h2
                rw [hun] at h3; cases h3
              rcases Nat.lt_or_gt_of_ne hne' with h6 | h6
              · have := (T.mono (k - (k' + 1)) (k' + 1) (by omega)).len
                rw [show k' + 1 + (k - (k' + 1)) = k by omega] at this
                omega
              · have := (T.mono (k' - (k + 1)) (k + 1) (by omega)).len
                rw [show k + 1 + (k' - (k + 1)) = k' by omega] at this
                omega
        have hqr := step_qa (st := ⟨mask (o.looksAt ops) (sts k).fr, (sts k).h⟩) hΓ hC (by rw [hs']; exact hs) hqm hmaskFr iq hnone
        obtain ⟨news, fz, h1, hfz, hh, hdoes⟩ := hqr
        simp only at hfz hh hdoes
        have hl1 := (fzs_spec hfz).len
        refine hdoes _ _ fun v w' hgrow => ?_
        obtain ⟨ok', mu', g⟩ := hgrow
        have hnn : news ≠ [] → mu (sts k).h.length = none := fun hne => hnone (by
          rw [hh, List.length_append, hl1]
          have : 0 < news.length := List.length_pos_iff.2 hne
          omega)
        have hlat := g.later' hinv.okw hnn
        have hsubNew : SubH h1 (sts m).h := by
          have : SubH h1 (h1 ++ news) := .append _ _
          rw [← hh] at this
          exact this.trans hsub1
        have hinv' := hinv.growAt hnn g (fun q hq => by
          have hf1 := (fzs_spec hfz).mem q hq
          have hlt1 : q < h1.length := getOb_lt (by cases hx : getOb h1 q <;> rw [hx] at hf1 <;> first | rfl | cases hf1)
          exact (hsubNew.same q hlt1).fz hf1) (fun ob hob => by
          subst hob
          have h9 : (sts k).h.length < (sts (k + 1)).h.length := by rw [hh, List.length_append, hl1]; simp
          have h10 : getOb (sts (k + 1)).h (sts k).h.length = ob := by
            rw [hh, getOb_append, if_neg (by omega), hl1, Nat.sub_self]; rfl
          have := hsub1.same (sts k).h.length h9
          rw [h10] at this
          exact this)
        refine keep v w' ok' mu' m (by omega) (by omega) (hBset m (fun _ _ _ _ _ => .rfl) (fun h => by omega)) hinv' (fun q hq => ?_) (fun _ q hq => ?_) hlat g.rp
        · by_cases e : q = (sts k).h.length
          · rcases g.obs with ⟨_, e1⟩ | ⟨ob, pl, e1, _⟩
            · rw [e, e1, ← e]; exact hfresh q hq
            · exfalso
              have h9 : (sts k).h.length < (sts (k + 1)).h.length := by rw [hh, e1, List.length_append, hl1]; simp
              have := hsub1.len
              omega
          · rw [g.same q e]; exact hfresh q hq
        · by_cases e : q = (sts k).h.length
          · rcases g.obs with ⟨_, e1⟩ | ⟨ob, pl, e1, _⟩
            · rw [e, e1, ← e] at hq
              exact hnew' rfl q hq
            · exact .inr ⟨k, j, hlt, hk, set_listed.2 (.inr ⟨rfl, by rw [I.size]; exact hjl⟩), e.symm, by rw [hh, e1, List.length_append, hl1, e]; rfl⟩
          · rw [g.same q e] at hq
            exact hnew' rfl q hq
      · have hmA : nA < m := by omega
        obtain ⟨jA, hjA⟩ := T.at (k := nA) (by omega)
        have hlA := (hB nA jA (Nat.le_refl _) hjA).2 hmA
        have hkF : nF ≤ k := by
          rcases Nat.lt_or_ge k nF with h1 | h1
          · have := hwaits nA jA (Nat.le_refl _) hjA (.inl hlA) k j (.inl h1) hlt hk
            rw [hun] at this; cases this
          · exact h1
        have hfl := D.fl k j o hkF hlt hk ho
        have hokf := T.okFS hkF hlt hk ho
        have hkeep : ∀ q ∈ S, getOb (sts m).h q = getOb (sts k).h q := fun q hq => by
          have e1 := T.prot D hq (m - nA) (by omega)
          rw [show nA + (m - nA) = m by omega] at e1
          have e2 := T.sameFs D (nA - k) k hkF (by omega)
          rw [show k + (nA - k) = nA by omega] at e2
          rw [e1, e2]
        have hqB : quietB Γ o = true := hfl.elim float_quiet load_quiet
        obtain ⟨hh, hsH⟩ : (sts (k + 1)).h = (sts k).h ∧ stepD P Γ C o ⟨(sts k).fr, (sts m).h⟩ = some (ps k, (sts m).h) := by
          exact stepD_F hfl hokf (show stepD P Γ C o ⟨(sts k).fr, (sts k).h⟩ = _ from hs) (sts m).h hkeep
        have hqr := (step_q (st := ⟨mask (o.looksAt ops) (sts k).fr, (sts m).h⟩) hΓ hC (by rw [hs']; exact hsH) hqB hmaskFr hinv.q (fun h => absurd rfl h)).m hinv hfresh
        refine hqr _ _ fun v w' hr' => ?_
        obtain ⟨ok', mu', g1, g2, g3, g4⟩ := hr'
        exact keep v w' ok' mu' m hm1 hm2 (hBset m (fun _ _ _ _ _ => .rfl) (fun h => by omega)) g2 g4 (fun h => absurd h hm) g1 g3
    · have hkm := hmid hge
      subst hkm
      have hmr := step_m (st := ⟨mask (o.looksAt ops) (sts k).fr, (sts k).h⟩) (w0 := w0) (ok0 := ok0) hΓ hC (by rw [hs']; exact hs) hmaskFr hinv hfresh
      refine hmr _ _ fun v w' hr' => ?_
      obtain ⟨ok', mu', g1, g2, g3, g4⟩ := hr'
      exact keep v w' ok' mu' (k + 1) (by omega) (by omega) (hBset (k + 1) (fun k' _ _ _ h => by omega) (fun _ => by omega)) g2 g4 (fun h => by omega) g1 g3
end
end Go.AM

/- The abstract machine's regions against the model's, seventh part: a whole region. -/
set_option linter.unusedVariables false
set_option linter.unusedSimpArgs false
namespace Go.AM
open Go.RowKit

section
variable {P : Program} {Γ : FuncId → Option FSig} {C : IV → List Nat → List (List IV) → Option (List IV)} {ops : Array Oper} {ord : List Nat} {nF nA : Nat} {S : List Nat} {sts : Nat → St} {ps : Nat → PV} {gs : Nat → Bool}
  {w0 : World} {ok0 : O0} {wS : World} {okS : Nat → Prop} {muS : Mu} {aS : Act} {R : Type}

theorem draw_done (T : Trc P Γ C ops ord nF nA S sts ps gs) (D : DCtx Γ ops ord nF nA) {listed : Array Bool} {a : Act} {w : World} (I : DInv P ops ord nA sts w0 ok0 wS okS muS aS listed a w) (hsz : aS.tmps.size = (sts 0).fr.length) (hr : Region.ready .any ops listed = []) :
    ∃ ok mu, Cfg w0 ok0 w ok mu (sts ord.length) a ∧ Step wS okS muS (sts 0).h aS w ok mu (sts ord.length).h a (dsts ops.toList) := by
  have hall : ∀ k, ∀ k' j : Nat, k' < k → ord[k']? = some j → listed.getD j false = true := by
    intro k
    induction k with
    | zero => intro k' j h; omega
    | succ k ih =>
      intro k' j hk hj
      by_cases e : k' = k
      · subst e
        obtain ⟨o, ho, _⟩ := T.step k' j hj
        have hjl : j < listed.size := by rw [I.size]; exact (Array.getElem?_eq_some_iff.1 ho).1
        cases hl : listed.getD j false with
        | true => rfl
        | false =>
          have : j ∈ Region.ready .any ops listed := by
            refine mem_ready.2 ⟨?_, o, ho, fun e he hb => ?_⟩
            · rw [Array.getD_eq_getD_getElem?, Array.getElem?_eq_getElem hjl] at hl ⊢
              exact hl
            · obtain ⟨k2, h2, h3⟩ := D.topo k' j o e hj ho he hb
              exact ih k2 _ (by omega) h3
          rw [hr] at this; cases this
      · exact ih k' j (by omega) hj
  obtain ⟨ok, mu, m, hm1, hm2, hB, hinv, hfresh, _, hcur, hlater⟩ := I.ex
  have hm : m = ord.length := by
    rcases Nat.lt_or_ge m ord.length with h | h
    · obtain ⟨j, hj⟩ := T.at h
      have := (hB m j hm1 hj).1 (hall (m + 1) m j (by omega) hj)
      omega
    · omega
  subst hm
  refine ⟨ok, mu, ⟨hinv, hfresh, ?_, fun t p v h1 h2 => ?_⟩, hlater, ?_, I.defers, I.same, by rw [I.tsize, hsz]⟩
  · rw [T.len _ (Nat.le_refl _), I.tsize]
  · have hp : (sts ord.length).fr.getD t .undef = p := by rw [List.getD_eq_getElem?_getD, h1]; rfl
    have h3 := hcur t v h2
    have hc : cur ops (sts 0).fr (sts ord.length).fr listed t = p := by
      by_cases hw : ∃ (i : Nat) (oi : Oper), ops[i]? = some oi ∧ oi.dst = some t
      · obtain ⟨i, oi, hi, hd⟩ := hw
        obtain ⟨ki, hki⟩ := D.all i (Array.getElem?_eq_some_iff.1 hi).1
        rw [cur_fin hi hd (hall (ki + 1) ki i (by omega) hki), hp]
      · rw [cur_ini fun i oi h4 h5 _ => hw ⟨i, oi, h4, h5⟩, ← hp]
        exact (T.ini ord.length (Nat.le_refl _) fun k' j' o' _ _ h5 h6 => hw ⟨j', o', h5, h6⟩).symm
    rw [hc] at h3
    exact h3
  · have := T.mono ord.length 0 (by omega)
    rwa [Nat.zero_add] at this
theorem draw_any (hΓ : GOK P Γ) (hC : COK P C) (T : Trc P Γ C ops ord nF nA S sts ps gs) (D : DCtx Γ ops ord nF nA) (hsz : aS.tmps.size = (sts 0).fr.length) {Q : Exit → Act → World → Prop}
    (hQ : ∀ (a : Act) (w : World) (ok : Nat → Prop) (mu : Mu), Cfg w0 ok0 w ok mu (sts ord.length) a → Step wS okS muS (sts 0).h aS w ok mu (sts ord.length).h a (dsts ops.toList) → Q .normal a w) :
    ∀ (fuel : Nat) (listed : Array Bool) (a : Act) (w : World), listed.toList.count false = fuel → DInv P ops ord nA sts w0 ok0 wS okS muS aS listed a w → wpAny P .any ops Q fuel listed a w := by
  intro fuel
  induction fuel with
  | zero =>
    intro listed a w hcnt I
    have hr : Region.ready .any ops listed = [] := by
      cases h : Region.ready .any ops listed with
      | nil => rfl
      | cons j l =>
        have hj : j ∈ Region.ready .any ops listed := by rw [h]; exact List.mem_cons_self
        obtain ⟨h0, o, ho, _⟩ := mem_ready.1 hj
        have hjl : j < listed.size := by rw [I.size]; exact (Array.getElem?_eq_some_iff.1 ho).1
        rw [Array.getD_eq_getD_getElem?, Array.getElem?_eq_getElem hjl] at h0
        simp only [Option.getD_some] at h0
        have : false ∈ listed.toList := by rw [← h0]; exact (Array.mem_toList_iff).2 (Array.getElem_mem hjl)
        have := List.count_pos_iff.2 this
        omega
    obtain ⟨ok, mu, h1, h2⟩ := draw_done T D I hsz hr
    exact ⟨hr, hQ a w ok mu h1 h2⟩
  | succ fuel ih =>
    intro listed a w hcnt I
    refine ⟨fun hr => ?_, fun j hj => ?_⟩
    · obtain ⟨ok, mu, h1, h2⟩ := draw_done T D I hsz hr
      exact hQ a w ok mu h1 h2
    · refine wpOp_mono (fun a' w' h => ih _ a' w' ?_ h) (draw_step hΓ hC T D I hj)
      obtain ⟨h0, o, ho, _⟩ := mem_ready.1 hj
      have hjl : j < listed.size := by rw [I.size]; exact (Array.getElem?_eq_some_iff.1 ho).1
      rw [Array.getD_eq_getD_getElem?, Array.getElem?_eq_getElem hjl] at h0
      simp only [Option.getD_some] at h0
      have hl : j < listed.toList.length := by simpa using hjl
      have h1 : (listed.setIfInBounds j true).toList = listed.toList.set j true := by simp
      rw [h1, List.count_set hl]
      have : listed.toList[j] = false := by simpa using h0
      rw [this, hcnt]
      simp
theorem draw_sound (hΓ : GOK P Γ) (hC : COK P C) (hm : P.follows .mixedOrders = true) {id : Nat} {F A B : List Nat} (hok : drawOK Γ ops F A B = true) {st : St} {k : St → Option R} {r : R} (hs : execRg P Γ C (some (F, A, B)) ops st k = some r)
    {a : Act} {w : World} {ok : Nat → Prop} {mu : Mu} (hc : Cfg w0 ok0 w ok mu st a) {Q : Exit → Act → World → Prop}
    (hk : ∀ (st' : St) (a' : Act) (w' : World) (ok' : Nat → Prop) (mu' : Mu), k st' = some r → Cfg w0 ok0 w' ok' mu' st' a' → Step w ok mu st.h a w' ok' mu' st'.h a' (dsts ops.toList) → Q .normal a' w') : (Code.region id ops true).wp P Q a w := by
  have D := drawOK_spec hok
  have hlt : ∀ j ∈ A ++ (F ++ B), j < ops.size := by
    intro j hj
    obtain ⟨k, hk⟩ := List.mem_iff_getElem?.1 hj
    simp only [drawOK, Bool.and_eq_true] at hok
    have h6 := hok.1.1.2
    have key : ∀ (l : List Nat) (s : Nat), topoB ops s l = true → ∀ j ∈ l, j < ops.size := by
      intro l
      induction l with
      | nil => intro s _ j hj; cases hj
      | cons i l ih =>
        intro s h j hj
        simp only [topoB, Bool.and_eq_true] at h
        rcases List.mem_cons.1 hj with rfl | hj
        · have h1 := h.1
          split at h1
          · rename_i ho; exact (Array.getElem?_eq_some_iff.1 ho).1
          · cases h1
        · exact ih _ h.2 j hj
    exact key _ _ h6 j hj
  obtain ⟨S, sts, ps, gs, h0, T, hfin⟩ := trace_rg (SS := protS F ops) (l := B) (F := F) (fun j hj => hlt j (List.mem_append_right _ (List.mem_append_right _ hj))) (fun j hj => hlt j (List.mem_append_right _ (List.mem_append_left _ hj))) A st (fun j hj => hlt j (List.mem_append_left _ hj)) hs
  subst h0
  obtain ⟨hinv, hl⟩ := hc.inv.drawn (w.drawn + 1)
  refine wp_region_any hm (draw_any hΓ hC T D hc.fr.size.symm (w0 := w0) (ok0 := ok0) (wS := { w with drawn := w.drawn + 1 }) (okS := ok) (muS := mu) (aS := a) (fun a' w' ok' mu' h1 h2 => hk _ a' w' ok' mu' hfin h1 ⟨hl.trans h2.later, h2.stay, h2.defers, h2.same, h2.size⟩) _ _ a _ (by simp) ?_)
  have hfalse : ∀ j, (Array.replicate ops.size false).getD j false = false := fun j => by
    rw [Array.getD_eq_getD_getElem?]
    by_cases h : j < ops.size <;> simp [h]
  refine ⟨by simp, fun j o _ h => (by rw [hfalse] at h; cases h), hc.fr.size.symm, rfl, fun _ _ => rfl, ok, mu, (A ++ F).length, Nat.le_refl _, D.len, fun k' j' h1 h2 => ⟨fun h => (by rw [hfalse] at h; cases h), fun h => by omega⟩, ?_, fun q hq => ?_, fun _ q hq => ?_, fun t v hv => ?_, .refl _ _ _⟩
  · have hsub := T.sub D (A ++ F).length 0 (by omega)
    rw [Nat.zero_add] at hsub
    exact hinv.subH hc.fresh hsub
  · have := (T.mono (A ++ F).length 0 (by have := D.len; omega)).len
    rw [Nat.zero_add] at this
    exact hc.fresh q (by omega)
  · left
    rcases Nat.lt_or_ge q (sts 0).h.length with h | h
    · exact h
    · exact absurd (hc.fresh q h) hq
  · rw [cur_ini fun i oi _ _ h => by rw [hfalse] at h; cases h]
    exact (hc.fr.at hv).later hl
/-- A region in the text's order. -/
theorem text_sound (hΓ : GOK P Γ) (hC : COK P C) {id : Nat} {st : St} {k : St → Option R} {r : R} (hs : execRg P Γ C none ops st k = some r)
    {a : Act} {w : World} {ok : Nat → Prop} {mu : Mu} (hc : Cfg w0 ok0 w ok mu st a) {Q : Exit → Act → World → Prop}
    (hk : ∀ (st' : St) (a' : Act) (w' : World) (ok' : Nat → Prop) (mu' : Mu), k st' = some r → Cfg w0 ok0 w' ok' mu' st' a' → Step w ok mu st.h a w' ok' mu' st'.h a' (dsts ops.toList) → Q .normal a' w') : (Code.region id ops false).wp P Q a w :=
  wp_region_list (ops_sound hΓ hC ops.toList st a w ok mu hs hc hk)
end
end Go.AM

/- The abstract machine's code against the model's, first part: what a loop hands on. -/
set_option linter.unusedVariables false
set_option linter.unusedSimpArgs false
namespace Go.AM
open Go.RowKit

/-- Where fewer objects are known. -/
theorem RP.restrict {w w' : World} {ok ok' : Nat → Prop} {mu mu' mu2 : Mu} {p : PV} {v : Value} (r : RP w ok mu p v) (hm : ∀ o, mu o ≠ none → mu2 o = mu' o) : ∀ {v' : Value}, RP w' ok' mu' p v' → RP w' ok' mu2 p v' := by
  induction r with
  | undef v => exact fun {v'} r => by cases r; exact .undef _
  | skip => exact fun {v'} r => by cases r; exact .skip
  | imm h => exact fun {v'} r => by cases r with | imm h => exact .imm h
  | nils => exact fun {v'} r => by cases r; exact .nils _
  | agg cs vs hlen hrel ih =>
    intro v' r
    cases r with
    | agg _ vs' hlen' hrel' =>
      refine .agg _ _ hlen' fun i p v h1 h2 => ?_
      have hi : i < vs.size := by rw [← hlen]; exact (List.getElem?_eq_some_iff.1 h1).1
      exact ih i p vs[i] h1 (Array.getElem?_eq_getElem hi) (hrel' i p v h1 h2)
  | tup cs vs hlen hrel ih =>
    intro v' r
    cases r with
    | tup _ vs' hlen' hrel' =>
      refine .tup _ _ hlen' fun i p v h1 h2 => ?_
      have hi : i < vs.size := by rw [← hlen]; exact (List.getElem?_eq_some_iff.1 h1).1
      exact ih i p vs[i] h1 (Array.getElem?_eq_getElem hi) (hrel' i p v h1 h2)
  | buf o n a cap pl h1 h2 h3 h4 => exact fun {v'} r => by cases r with | buf _ _ a' cap' pl' g1 g2 g3 g4 => exact .buf o n a' cap' pl' (by rw [hm o (by rw [h1]; simp)]; exact g1) g2 g3 g4
  | sub o l u a cap pl h1 h2 h3 h4 h5 => exact fun {v'} r => by cases r with | sub _ _ _ a' cap' pl' g1 g2 g3 g4 g5 => exact .sub o l u a' cap' pl' (by rw [hm o (by rw [h1]; simp)]; exact g1) g2 g3 g4 g5
  | ptr o j pl b base h1 h2 => exact fun {v'} r => by cases r with | ptr _ _ pl' b' base' g1 g2 => exact .ptr o j pl' b' base' (by rw [hm o (by rw [h1]; simp)]; exact g1) g2
  | bptr o i j pl b base h1 h2 => exact fun {v'} r => by cases r with | bptr _ _ _ pl' b' base' g1 g2 => exact .bptr o i j pl' b' base' (by rw [hm o (by rw [h1]; simp)]; exact g1) g2
  | eptr es e i j b off vals h1 h2 h3 h4 => exact fun {v'} r => by cases r with | eptr _ e' _ _ b' off' vals' g1 g2 g3 g4 => exact .eptr es e' i j b' off' vals' g1 g2 g3 g4
  | iptr cs j0 j b off vals h1 h2 h3 => exact fun {v'} r => by cases r with | iptr _ _ _ b' off' vals' g1 g2 g3 => exact .iptr cs j0 j b' off' vals' g1 g2 g3
  | mp o pl b h1 h2 h3 => exact fun {v'} r => by cases r with | mp _ pl' b' g1 g2 g3 => exact .mp o pl' b' (by rw [hm o (by rw [h1]; simp)]; exact g1) g2 g3
  | sn o pl b base v h1 h2 h3 => exact fun {v'} r => by cases r with | sn _ pl' b' base' _ g1 g2 g3 => exact .sn o pl' b' base' _ (by rw [hm o (by rw [h1]; simp)]; exact g1) g2 g3
  | clo fn caps cv hlen hrel ih =>
    intro v' r
    cases r with
    | clo _ _ cv' hlen' hrel' =>
      refine .clo fn caps cv' hlen' fun i p v h1 h2 => ?_
      have hi : i < cv.size := by rw [← hlen]; exact (List.getElem?_eq_some_iff.1 h1).1
      exact ih i p cv[i] h1 (Array.getElem?_eq_getElem hi) (hrel' i p v h1 h2)

/-- The same contents, and written no more or not alike. -/
def SameC (x y : Ob) : Prop := x.fz = y.fz ∧ ((∃ m m' cs, x = .box m cs ∧ y = .box m' cs) ∨ ∃ m m' s z, x = .arr m s z ∧ y = .arr m' s z)
theorem SameC.live {x y : Ob} (h : SameC x y) : y.live = true := by
  obtain ⟨_, ⟨m, m', cs, _, rfl⟩ | ⟨m, m', s, z, _, rfl⟩⟩ := h <;> rfl
theorem lockOb_same {x : Ob} (h : x.live = true) : SameC (lockOb x) x := by
  cases x with
  | dead => cases h
  | box m cs => cases m <;> exact ⟨rfl, .inl ⟨_, _, _, rfl, rfl⟩⟩
  | arr m s z => cases m <;> exact ⟨rfl, .inr ⟨_, _, _, _, rfl, rfl⟩⟩
theorem SameC.symm {x y : Ob} (h : SameC x y) : SameC y x := by
  obtain ⟨h1, ⟨m, m', cs, h2, h3⟩ | ⟨m, m', s, z, h2, h3⟩⟩ := h
  · exact ⟨h1.symm, .inl ⟨_, _, _, h3, h2⟩⟩
  · exact ⟨h1.symm, .inr ⟨_, _, _, _, h3, h2⟩⟩
theorem lockOb_live (x : Ob) : (lockOb x).live = x.live := by
  cases x with
  | dead => rfl
  | box m cs => cases m <;> rfl
  | arr m s z => cases m <;> rfl
theorem lockOb_rw (x : Ob) : isRw (lockOb x) = false := by
  cases x with
  | dead => rfl
  | box m cs => cases m <;> rfl
  | arr m s z => cases m <;> rfl
theorem getOb_lock (h : List Ob) (o : Nat) : getOb (h.map lockOb) o = lockOb (getOb h o) := by
  unfold getOb
  simp only [List.getD_eq_getElem?_getD, List.getElem?_map]
  cases h[o]? <;> rfl
theorem rw_live {x : Ob} (h : isRw x = true) : x.live = true ∧ x.fz = false := by
  cases x with
  | dead => cases h
  | box m cs => cases m <;> first | exact ⟨rfl, rfl⟩ | cases h
  | arr m s z => cases m <;> first | exact ⟨rfl, rfl⟩ | cases h

section
variable {w0 : World} {ok0 : O0} {w : World} {ok : Nat → Prop} {mu : Mu} {h : List Ob} {a : Act}
theorem Fr.upd {fr : List PV} {tmps : Array Value} (r : Fr w ok mu fr tmps) {t : Nat} {p : PV} (hp : ∀ v, tmps[t]? = some v → RP w ok mu p v) : Fr w ok mu (fr.set t p) tmps := by
  refine ⟨by simp [r.size], fun u q x h1 h2 => ?_⟩
  by_cases e : t = u
  · subst e
    rw [List.getElem?_set] at h1
    simp only [if_true] at h1
    split at h1
    · cases h1; exact hp x h2
    · cases h1
  · rw [List.getElem?_set_ne e] at h1
    exact r.rel u q x h1 h2
/-- What is taken over. -/
theorem unpack_cfg {w' : World} {ok' : Nat → Prop} {mu' : Mu} {st' : St} {h1 : List Ob} {fz : List Nat} {vs : List IV} (c : Cfg w0 ok0 w' ok' mu' st' a) (hf : fzs st'.h fz = some h1) :
    ∀ (L : List (Nat × Kd)) (i : Nat) (st : St) (mu : Mu) (vt : List IV), pack st' L = some vt → (∀ j, j < vt.length → nth vs (i + j) = nth vt j) → (∀ q ∈ frozenBy st' L, q ∈ fz) → nodupB (taken st' L) = true →
      (∀ o ∈ taken st' L, isRw (getOb h1 o) = true ∧ ∀ pl b base o2 pl2 base2, mu' o = some pl → pl.loc = some (b, base) → mu o2 = some pl2 → pl2.loc = some (b, base2) → (getOb st.h o2).live = false) → Cfg w0 ok0 w' (okR ok' mu' fz) mu st a →
      ∃ mu2, Cfg w0 ok0 w' (okR ok' mu' fz) mu2 (unpack vs L i st) a ∧ ∀ o pl, mu o = some pl → mu2 o = some pl
  | [], i, st, mu, vt, _, _, _, _, _, cs => ⟨mu, cs, fun _ _ h => h⟩
  | (t, kd) :: L, i, st, mu, vt, hp, hv, hfz, hnd, htk, cs => by
    have iz := c.inv.freeze c.fresh hf
    have hfro := fzs_spec hf
    have hokl : Later w' ok' mu' w' (okR ok' mu' fz) mu' := ⟨⟨fun _ _ => rfl, fun _ h => .inl h⟩, fun _ _ h => h, .refl _⟩
    simp only [pack] at hp
    split at hp
    · rename_i x xs hx hxs
      cases hp
      have hxs' : ∀ n, x.length = n → ∀ j, j < xs.length → nth vs (i + n + j) = nth xs j := fun n hn j hj => by
        have := hv (n + j) (by simp; omega)
        rw [show i + n + j = i + (n + j) by omega, this]
        unfold nth
        rw [List.getD_eq_getElem?_getD, List.getElem?_append_right (by omega), List.getD_eq_getElem?_getD]
        congr 2; omega
      have hx0 : ∀ j, j < x.length → nth vs (i + j) = nth x j := fun j hj => by
        rw [hv j (by simp; omega)]
        unfold nth
        rw [List.getD_eq_getElem?_getD, List.getElem?_append_left hj, List.getD_eq_getElem?_getD]
      cases kd with
      | I =>
        simp only [packOne, Option.map_eq_some_iff] at hx
        obtain ⟨y, hy, rfl⟩ := hx
        simp only [frozenBy, List.mem_append] at hfz
        refine unpack_cfg c hf L (i + 1) _ mu xs hxs (hxs' 1 rfl) (fun q hq => hfz q (.inr hq)) (by simpa [taken] using hnd) (by simpa [taken] using htk) ⟨cs.inv, cs.fresh, cs.fr.upd fun v hv' => ?_⟩
        have h0 := hx0 0 (by simp)
        rw [Nat.add_zero] at h0
        rw [h0]
        exact .imm ((toIV_rv c.inv.q 5 _ _ v hy (c.fr.at hv')).more fun b hb => okR.sub (fun q hq => hfz q (.inl hq)) hb)
      | S n =>
        simp only [packOne] at hx
        split at hx
        · rename_i ps hps
          split at hx
          · rename_i hn
            obtain ⟨hl, hg⟩ := mapM_get hx
            simp only [frozenBy, List.mem_append] at hfz
            refine unpack_cfg c hf L (i + n) _ mu xs hxs (hxs' n (by rw [hl, hn])) (fun q hq => hfz q (.inr hq)) (by simpa [taken] using hnd) (by simpa [taken] using htk) ⟨cs.inv, cs.fresh, cs.fr.upd fun v hv' => ?_⟩
            have hr := c.fr.at hv'
            rw [hps] at hr
            cases hr with
            | agg _ us hlen hrel =>
              refine .agg _ _ (by rw [immsN_length, ← hlen, hn]) fun j p u h2 h3 => ?_
              have hj : j < n := by have := (List.getElem?_eq_some_iff.1 h2).1; rw [immsN_length] at this; exact this
              rw [immsN_get vs i n j hj] at h2
              cases h2
              obtain ⟨y, h4, h5⟩ := hg j ps[j] (List.getElem?_eq_getElem (by omega))
              have h6 : nth vs (i + j) = y := by rw [hx0 j (by omega)]; unfold nth; rw [List.getD_eq_getElem?_getD, h4]; rfl
              rw [h6]
              refine .imm ((toIV_rv c.inv.q 5 _ _ u h5 (hrel j _ u (List.getElem?_eq_getElem (by omega)) h3)).more fun b hb => okR.sub (fun q hq => hfz q (.inl ?_)) hb)
              rw [hps]
              simp only [prefs, PV.cells, List.mem_flatMap]
              exact ⟨ps[j], List.getElem_mem _, hq⟩
          · cases hx
        · cases hx
      | B sz =>
        simp only [packOne] at hx
        have hfz' : ∀ q ∈ frozenBy st' L, q ∈ fz := by simpa [frozenBy] using hfz
        split at hx
        · rename_i hps
          split at hx
          case isFalse => cases hx
          rename_i hpos
          cases hx
          have h0 := hx0 0 (by simp)
          rw [Nat.add_zero] at h0
          have h0' : nth vs i = .lst [] := h0
          obtain ⟨ia, fa, la⟩ := cs.inv.add cs.fresh (ob := .arr .rw sz (.lst [])) (pl := ⟨none, 0, sz⟩) (.inl ⟨hpos, rfl, [], rfl, rfl, by simp, fun _ => rfl, fun b base hb => by cases hb⟩) (fun b base hb => by cases hb)
          have ht0 : taken st' ((t, Kd.B sz) :: L) = taken st' L := by simp only [taken, hps, List.nil_append]
          rw [ht0] at hnd htk
          obtain ⟨mu2, c2, e2⟩ := unpack_cfg c hf L (i + 1) ⟨st.fr.set t (.buf st.h.length (llen (nth vs i))), st.h ++ [.arr .rw sz (nth vs i)]⟩ _ xs hxs (hxs' 1 rfl) hfz' hnd (fun o ho => ⟨(htk o ho).1, fun pl b base o2 pl2 base2 g1 g2 g3 g4 => by
            by_cases e : o2 = st.h.length
            · subst e; simp at g3; subst g3; cases g4
            · simp only [e, if_false] at g3
              have := (htk o ho).2 pl b base o2 pl2 base2 g1 g2 g3 g4
              rw [getOb_append]
              split
              · exact this
              · rename_i hge
                exfalso; rw [cs.fresh o2 (by omega)] at g3; cases g3⟩)
            ⟨by rw [h0']; exact ia, by rw [h0']; exact fa, (cs.fr.later la).upd fun v hv' => by
              have hr := c.fr.at hv'
              rw [hps] at hr
              cases hr
              rw [h0']
              exact .buf st.h.length 0 _ 0 ⟨none, 0, sz⟩ (by simp) rfl ⟨Nat.le_refl _, .inl ⟨rfl, rfl⟩⟩ (fun b base hb => by cases hb)⟩
          exact ⟨mu2, c2, fun o pl ho => e2 o pl (la.mu o pl ho)⟩
        · rename_i o n hps
          split at hx
          · rename_i sz' y hg
            split at hx
            · rename_i hsz
              cases hx
              subst hsz
              have h0 := hx0 0 (by simp)
              rw [Nat.add_zero] at h0
              have h0' : nth vs i = y := h0
              have ht0 : taken st' ((t, Kd.B sz') :: L) = o :: taken st' L := by simp only [taken, hps]; rfl
              rw [ht0] at hnd htk
              simp only [nodupB, Bool.and_eq_true, Bool.not_eq_true', List.contains_eq_mem, decide_eq_false_iff_not] at hnd
              obtain ⟨hrw, hfree⟩ := htk o List.mem_cons_self
              obtain ⟨hlv, hnf⟩ := rw_live hrw
              -- the temporary is in reach: else it could not be packed
              by_cases hin : t < a.tmps.size
              · have hv' : a.tmps[t]? = some a.tmps[t] := Array.getElem?_eq_getElem hin
                have hr := c.fr.at hv'
                rw [hps] at hr
                generalize hval : a.tmps[t] = v at hr hv'
                cases hr with
                | buf _ _ A cap pl hm hn hh hc =>
                  have hob := c.inv.ob o pl hm
                  rw [hg] at hob
                  have hob1 : ∀ mu3, ObOk w' (okR ok' mu' fz) mu3 pl (.arr .rw sz' y) := fun mu3 => by
                    obtain ⟨q1, es, q2, q3, q4, q5, q6⟩ := hob.arrC hc
                    refine .inl ⟨hob.posC hc, q1, es, q2, q3, q4, q5, fun b base hb => ?_⟩
                    obtain ⟨cc, T, q7, q8, q9⟩ := q6 b base hb
                    refine ⟨cc, T, q7, q8, fun i j e x he hx => ?_⟩
                    obtain ⟨u, q10, q11⟩ := q9 i j e x he hx
                    exact ⟨u, q10, q11.more fun b hb => .inl hb⟩
                  obtain ⟨ia, fa, la⟩ := cs.inv.add cs.fresh (ob := .arr .rw sz' y) (pl := pl) (hob1 _) (fun b base hb => by
                    obtain ⟨g1, g2, g3⟩ := iz.own o pl b base hm hb
                    exact ⟨g1, g2, g3 hlv hnf, fun o2 pl2 base2 g4 g5 => hfree pl b base o2 pl2 base2 hm hb g4 g5⟩)
                  have hlen : llen (nth vs i) = n := by
                    obtain ⟨q1, es, q2, q3, _⟩ := hob.arrC hc
                    rw [h0', q2, hn]; exact q3
                  obtain ⟨mu2, c2, e2⟩ := unpack_cfg c hf L (i + 1) ⟨st.fr.set t (.buf st.h.length (llen (nth vs i))), st.h ++ [.arr .rw sz' (nth vs i)]⟩ _ xs hxs (hxs' 1 rfl) hfz' hnd.2 (fun o3 ho3 => ⟨(htk o3 (List.mem_cons_of_mem _ ho3)).1, fun pl3 b base o2 pl2 base2 g1 g2 g3 g4 => by
                    by_cases e : o2 = st.h.length
                    · exfalso
                      subst e; simp at g3; subst g3
                      have := iz.inj o o3 pl pl3 b base2 base hm g1 g4 g2 hlv (rw_live (htk o3 (List.mem_cons_of_mem _ ho3)).1).1
                      subst this
                      exact hnd.1 ho3
                    · simp only [e, if_false] at g3
                      have := (htk o3 (List.mem_cons_of_mem _ ho3)).2 pl3 b base o2 pl2 base2 g1 g2 g3 g4
                      rw [getOb_append]
                      split
                      · exact this
                      · rename_i hge
                        exfalso; rw [cs.fresh o2 (by omega)] at g3; cases g3⟩)
                    ⟨by rw [h0']; exact ia, by rw [h0']; exact fa, (cs.fr.later la).upd fun u hu => by
                      rw [hv'] at hu; cases hu
                      rw [hlen]
                      exact .buf st.h.length n A cap pl (by simp) hn hh hc⟩
                  exact ⟨mu2, c2, fun o pl ho => e2 o pl (la.mu o pl ho)⟩
              · exfalso
                rw [List.getD_eq_getElem?_getD, List.getElem?_eq_none (by rw [c.fr.size]; omega)] at hps
                cases hps
            · cases hx
          · cases hx
        · cases hx
      | G n =>
        simp only [packOne] at hx
        split at hx
        · rename_i o hps
          split at hx
          · rename_i ps hg
            split at hx
            · rename_i hn
              obtain ⟨hl, hgm⟩ := mapM_get hx
              have ht0 : taken st' ((t, Kd.G n) :: L) = o :: taken st' L := by simp only [taken, hps]; rfl
              have hf0 : frozenBy st' ((t, Kd.G n) :: L) = ps.flatMap (refs st'.h 5) ++ frozenBy st' L := by simp only [frozenBy, hps, hg]
              rw [ht0] at hnd htk
              rw [hf0] at hfz
              simp only [List.mem_append] at hfz
              simp only [nodupB, Bool.and_eq_true, Bool.not_eq_true', List.contains_eq_mem, decide_eq_false_iff_not] at hnd
              obtain ⟨hrw, hfree⟩ := htk o List.mem_cons_self
              obtain ⟨hlv, hnf⟩ := rw_live hrw
              by_cases hin : t < a.tmps.size
              · have hv' : a.tmps[t]? = some a.tmps[t] := Array.getElem?_eq_getElem hin
                have hr := c.fr.at hv'
                rw [hps] at hr
                generalize hval : a.tmps[t] = v at hr hv'
                cases hr with
                | ptr _ _ pl b base hm hlb =>
                  have hob := c.inv.ob o pl hm
                  rw [hg] at hob
                  have hob1 : ∀ mu3, ObOk w' (okR ok' mu' fz) mu3 pl (.box .rw (immsN vs i n)) := fun mu3 => by
                    obtain ⟨b', base', cc, T, q1, q2, q3, q4⟩ := hob
                    refine ⟨b', base', cc, T, q1, q2, by rw [immsN_length]; omega, fun j p hj => ?_⟩
                    have hjn : j < n := by have := (List.getElem?_eq_some_iff.1 hj).1; rw [immsN_length] at this; exact this
                    rw [immsN_get vs i n j hjn] at hj
                    cases hj
                    obtain ⟨u, q5, q6⟩ := q4 j ps[j] (List.getElem?_eq_getElem (by omega))
                    obtain ⟨y, h4, h5⟩ := hgm j ps[j] (List.getElem?_eq_getElem (by omega))
                    have h6 : nth vs (i + j) = y := by rw [hx0 j (by omega)]; unfold nth; rw [List.getD_eq_getElem?_getD, h4]; rfl
                    rw [h6]
                    exact ⟨u, q5, .imm ((toIV_rv c.inv.q 5 _ _ u h5 q6).more fun b hb => okR.sub (fun q hq => hfz q (.inl (List.mem_flatMap.2 ⟨ps[j], List.getElem_mem _, hq⟩))) hb)⟩
                  obtain ⟨ia, fa, la⟩ := cs.inv.add cs.fresh (ob := .box .rw (immsN vs i n)) (pl := pl) (hob1 _) (fun b base hb => by
                    obtain ⟨g1, g2, g3⟩ := iz.own o pl b base hm hb
                    exact ⟨g1, g2, g3 hlv hnf, fun o2 pl2 base2 g4 g5 => hfree pl b base o2 pl2 base2 hm hb g4 g5⟩)
                  obtain ⟨mu2, c2, e2⟩ := unpack_cfg c hf L (i + n) ⟨st.fr.set t (.ptr st.h.length 0), st.h ++ [.box .rw (immsN vs i n)]⟩ _ xs hxs (hxs' n (by rw [hl, hn])) (fun q hq => hfz q (.inr hq)) hnd.2 (fun o3 ho3 => ⟨(htk o3 (List.mem_cons_of_mem _ ho3)).1, fun pl3 b base o2 pl2 base2 g1 g2 g3 g4 => by
                    by_cases e : o2 = st.h.length
                    · exfalso
                      subst e; simp at g3; subst g3
                      have := iz.inj o o3 pl pl3 b base2 base hm g1 g4 g2 hlv (rw_live (htk o3 (List.mem_cons_of_mem _ ho3)).1).1
                      subst this
                      exact hnd.1 ho3
                    · simp only [e, if_false] at g3
                      have := (htk o3 (List.mem_cons_of_mem _ ho3)).2 pl3 b base o2 pl2 base2 g1 g2 g3 g4
                      rw [getOb_append]
                      split
                      · exact this
                      · rename_i hge
                        exfalso; rw [cs.fresh o2 (by omega)] at g3; cases g3⟩)
                    ⟨ia, fa, (cs.fr.later la).upd fun u hu => by
                      rw [hv'] at hu; cases hu
                      exact .ptr st.h.length 0 pl b base (by simp) hlb⟩
                  exact ⟨mu2, c2, fun o pl ho => e2 o pl (la.mu o pl ho)⟩
              · exfalso
                rw [List.getD_eq_getElem?_getD, List.getElem?_eq_none (by rw [c.fr.size]; omega)] at hps
                cases hps
            · cases hx
          · cases hx
        · cases hx
      | M =>
        simp only [packOne] at hx
        have hfz' : ∀ q ∈ frozenBy st' L, q ∈ fz := by simpa [frozenBy] using hfz
        split at hx
        · rename_i o hps
          split at hx
          · rename_i sz y hg
            · cases hx
              have h0 := hx0 0 (by simp)
              rw [Nat.add_zero] at h0
              have h0' : nth vs i = y := h0
              have ht0 : taken st' ((t, Kd.M) :: L) = o :: taken st' L := by simp only [taken, hps]; rfl
              rw [ht0] at hnd htk
              simp only [nodupB, Bool.and_eq_true, Bool.not_eq_true', List.contains_eq_mem, decide_eq_false_iff_not] at hnd
              obtain ⟨hrw, hfree⟩ := htk o List.mem_cons_self
              obtain ⟨hlv, hnf⟩ := rw_live hrw
              by_cases hin : t < a.tmps.size
              · have hv' : a.tmps[t]? = some a.tmps[t] := Array.getElem?_eq_getElem hin
                have hr := c.fr.at hv'
                rw [hps] at hr
                generalize hval : a.tmps[t] = v at hr hv'
                cases hr with
                | mp _ pl b hm hlb hz0 =>
                  have hob := c.inv.ob o pl hm
                  rw [hg] at hob
                  obtain ⟨_, es, rfl, hmap⟩ := hob.mapZ hz0 hlb
                  have hob1 : ∀ mu3, ObOk w' (okR ok' mu' fz) mu3 pl (.arr .rw 0 (.map es)) := fun mu3 =>
                    .inr ⟨hz0, es, b, rfl, hlb, hmap.keeps ⟨fun _ _ => rfl, fun b hb => .inl hb⟩ rfl⟩
                  obtain ⟨ia, fa, la⟩ := cs.inv.add cs.fresh (ob := .arr .rw 0 (.map es)) (pl := pl) (hob1 _) (fun b base hb => by
                    obtain ⟨g1, g2, g3⟩ := iz.own o pl b base hm hb
                    exact ⟨g1, g2, g3 hlv hnf, fun o2 pl2 base2 g4 g5 => hfree pl b base o2 pl2 base2 hm hb g4 g5⟩)
                  obtain ⟨mu2, c2, e2⟩ := unpack_cfg c hf L (i + 1) ⟨st.fr.set t (.mp st.h.length), st.h ++ [.arr .rw 0 (nth vs i)]⟩ _ xs hxs (hxs' 1 rfl) hfz' hnd.2 (fun o3 ho3 => ⟨(htk o3 (List.mem_cons_of_mem _ ho3)).1, fun pl3 b base o2 pl2 base2 g1 g2 g3 g4 => by
                    by_cases e : o2 = st.h.length
                    · exfalso
                      subst e; simp at g3; subst g3
                      have := iz.inj o o3 pl pl3 b base2 base hm g1 g4 g2 hlv (rw_live (htk o3 (List.mem_cons_of_mem _ ho3)).1).1
                      subst this
                      exact hnd.1 ho3
                    · simp only [e, if_false] at g3
                      have := (htk o3 (List.mem_cons_of_mem _ ho3)).2 pl3 b base o2 pl2 base2 g1 g2 g3 g4
                      rw [getOb_append]
                      split
                      · exact this
                      · rename_i hge
                        exfalso; rw [cs.fresh o2 (by omega)] at g3; cases g3⟩)
                    ⟨by rw [h0']; exact ia, by rw [h0']; exact fa, (cs.fr.later la).upd fun u hu => by
                      rw [hv'] at hu; cases hu
                      exact .mp st.h.length pl b (by simp) hlb hz0⟩
                  exact ⟨mu2, c2, fun o pl ho => e2 o pl (la.mu o pl ho)⟩
              · exfalso
                rw [List.getD_eq_getElem?_getD, List.getElem?_eq_none (by rw [c.fr.size]; omega)] at hps
                cases hps
          · cases hx
        · cases hx
      | O shp =>
        simp only [packOne, Option.map_eq_some_iff] at hx
        obtain ⟨⟨vs1, os⟩, hy, rfl⟩ := hx
        obtain ⟨_, q, hq, _⟩ := objT_rw hy
        have hfz' : ∀ q ∈ frozenBy st' L, q ∈ fz := by simpa [frozenBy] using hfz
        have ht0 : taken st' ((t, Kd.O shp) :: L) = os ++ taken st' L := by simp only [taken, hy]
        rw [ht0] at hnd htk
        obtain ⟨hnd1, hnd2⟩ := nodupB_append hnd
        rw [hq] at hy
        by_cases hin : t < a.tmps.size
        · have hv' : a.tmps[t]? = some a.tmps[t] := Array.getElem?_eq_getElem hin
          have hr := c.fr.at hv'
          rw [hq] at hr
          generalize hval : a.tmps[t] = v at hr hv'
          obtain ⟨pl, pA, hm, tv, hlen, hrw, hqos, hA⟩ := objT_val c.inv hy hr
          have hokm : ∀ b, ok' b → okR ok' mu' fz b := fun b hb => .inl hb
          have hlv : ∀ k ∈ os, isRw (getOb h1 k) = true := fun k hk => (htk k (List.mem_append_left _ hk)).1
          have hfree : ∀ k ∈ os, ∀ pl b base o2 pl2 base2, mu' k = some pl → pl.loc = some (b, base) → mu o2 = some pl2 → pl2.loc = some (b, base2) → (getOb st.h o2).live = false := fun k hk => (htk k (List.mem_append_left _ hk)).2
          have hobj : ∀ b, ObjLoc shp pl pA b → ∃ k ∈ os, ∃ plq base, mu' k = some plq ∧ plq.loc = some (b, base) := fun b hb => by
            rcases hb with ⟨base, hb⟩ | hb
            · exact ⟨q, hqos, pl, base, hm, hb⟩
            · obtain ⟨k, hk, _, plq, base, g1, g2⟩ := hA b hb
              exact ⟨k, hk, plq, base, g1, g2⟩
          have hno : ∀ b, ObjLoc shp pl pA b → ¬ okR ok' mu' fz b := fun b hb => by
            obtain ⟨k, hk, plq, base, g1, g2⟩ := hobj b hb
            exact (iz.own k plq b base g1 g2).2.2 (rw_live (hlv k hk)).1 (rw_live (hlv k hk)).2
          obtain ⟨muX, ib, fb, lb, mb, mall⟩ := cs.inv.addObj cs.fresh (r := vs) (i0 := i) (tv.more hokm hno) (fun j hj => hx0 j (by rw [hlen]; exact hj)) (fun b hb => by
            obtain ⟨k, hk, plq, base, g1, g2⟩ := hobj b hb
            obtain ⟨e1, e2, e3⟩ := iz.own k plq b base g1 g2
            exact ⟨e1, e2, fun o2 pl2 base2 g4 g5 => hfree k hk plq b base o2 pl2 base2 g1 g2 g4 g5⟩)
          have hl2 : (st.h ++ (objArrs vs shp i ++ [Ob.box .rw (objCells (st.h.length + shp.length) vs shp st.h.length i)])).length = st.h.length + (shp.length + 1) := by simp [objArrs_length]
          obtain ⟨mu2, c2, e2⟩ := unpack_cfg c hf L (i + shp.length) ⟨st.fr.set t (.ptr (st.h.length + shp.length) 0), st.h ++ (objArrs vs shp i ++ [.box .rw (objCells (st.h.length + shp.length) vs shp st.h.length i)])⟩ _ xs hxs (hxs' shp.length hlen) hfz' hnd1 (fun o3 ho3 => ⟨(htk o3 (List.mem_append_right _ ho3)).1, fun pl3 b base o2 pl2 base2 g1 g2 g3 g4 => by
            have hlv3 := (rw_live (htk o3 (List.mem_append_right _ ho3)).1).1
            rcases mall o2 pl2 g3 with ⟨hlt, g3'⟩ | ⟨_, hloc⟩
            · rw [getOb_append, if_pos hlt]
              exact (htk o3 (List.mem_append_right _ ho3)).2 pl3 b base o2 pl2 base2 g1 g2 g3' g4
            · exfalso
              obtain ⟨k, hk, plq, bs, k1, k2⟩ := hobj b (hloc b base2 g4)
              have := iz.inj k o3 plq pl3 b bs base k1 g1 k2 g2 (rw_live (hlv k hk)).1 hlv3
              subst this
              exact hnd2 k hk ho3⟩)
            ⟨ib, fb, (cs.fr.later lb).upd fun u hu => by
              rw [hv'] at hu; cases hu
              obtain ⟨b, base, cc, T, hl, hv2, _⟩ := tv.box
              rw [hv2]
              exact .ptr (st.h.length + shp.length) 0 pl b base mb hl⟩
          exact ⟨mu2, c2, fun o pl ho => e2 o pl (lb.mu o pl ho)⟩
        · exfalso
          rw [List.getD_eq_getElem?_getD, List.getElem?_eq_none (by rw [c.fr.size]; omega)] at hq
          cases hq
    · cases hp
end
end Go.AM

/- The abstract machine's code against the model's, second part: code. -/
set_option linter.unusedVariables false
set_option linter.unusedSimpArgs false
namespace Go.AM
open Go.RowKit

theorem forget_get : ∀ (W : List Nat) (fr : List PV) (t : Nat) (p : PV), t ∈ W → (forget fr W)[t]? = some p → p = .undef
  | [], fr, t, p, h, _ => by cases h
  | x :: W, fr, t, p, h, hp => by
    simp only [forget] at hp
    by_cases e : t ∈ W
    · exact forget_get W _ t p e hp
    · have hx : t = x := by
        rcases List.mem_cons.1 h with h1 | h1
        · exact h1
        · exact absurd h1 e
      subst hx
      have keep : ∀ (W : List Nat) (fr : List PV), t ∉ W → (forget fr W)[t]? = fr[t]? := by
        intro W
        induction W with
        | nil => intro fr _; rfl
        | cons y W ih =>
          intro fr hn
          simp only [List.mem_cons, not_or] at hn
          simp only [forget]
          rw [ih _ hn.2, List.getElem?_set_ne (Ne.symm hn.1)]
      rw [keep W _ e, List.getElem?_set] at hp
      simp only [if_true] at hp
      split at hp
      · cases hp; rfl
      · cases hp
theorem forget_keep : ∀ (W : List Nat) (fr : List PV) (t : Nat), t ∉ W → (forget fr W)[t]? = fr[t]?
  | [], fr, t, _ => rfl
  | y :: W, fr, t, hn => by
    simp only [List.mem_cons, not_or] at hn
    simp only [forget]
    rw [forget_keep W _ t hn.2, List.getElem?_set_ne (Ne.symm hn.1)]
theorem forget_length : ∀ (W : List Nat) (fr : List PV), (forget fr W).length = fr.length
  | [], _ => rfl
  | y :: W, fr => by simp only [forget]; rw [forget_length W]; simp
section
variable {w0 : World} {ok0 : O0} {w w' : World} {ok ok' : Nat → Prop} {mu mu' : Mu} {h : List Ob} {a a' : Act}
/-- A frame, later, where some have turned. -/
theorem Fr.turned {fr : List PV} {W : List Nat} (r : Fr w ok mu fr a.tmps) (hl : Later w ok mu w' ok' mu') (hs : ∀ t, t ∉ W → a'.tmps[t]? = a.tmps[t]?) (hz : a'.tmps.size = a.tmps.size) : Fr w' ok' mu' (AM.forget fr W) a'.tmps := by
  refine ⟨by rw [forget_length, r.size, hz], fun t p v h1 h2 => ?_⟩
  by_cases e : t ∈ W
  · rw [forget_get W fr t p e h1]; exact .undef v
  · rw [forget_keep W fr t e] at h1
    rw [hs t e] at h2
    exact (r.rel t p v h1 h2).later hl
/-- Fewer objects, some of them written no more; or locked ones. -/
theorem Inv.less (i : Inv w0 ok0 w ok mu h) {H : List Ob} (hs : ∀ o, (getOb H o).live = true → (getOb h o).fz = true ∧ (getOb H o).fz = true ∧ SameC (getOb H o) (getOb h o) ∨ (∃ m cs, getOb h o = .box m cs ∧ ∃ m', getOb H o = .box m' cs ∧ ((getOb H o).fz = false → (getOb h o).fz = false)) ∨ (∃ m s z, getOb h o = .arr m s z ∧ ∃ m', getOb H o = .arr m' s z ∧ ((getOb H o).fz = false → (getOb h o).fz = false))) : Inv w0 ok0 w ok mu H := by
  have hlv : ∀ o, (getOb H o).live = true → (getOb h o).live = true := fun o h1 => by
    rcases hs o h1 with ⟨_, _, h2⟩ | ⟨m, cs, h2, _⟩ | ⟨m, s, z, h2, _⟩
    · exact h2.live
    · rw [h2]; rfl
    · rw [h2]; rfl
  refine ⟨i.below, i.okw, i.okb, fun o pl ho => ?_, fun o pl b base ho hb => ?_, fun o o' pl pl' b base base' ho ho' hb hb' h1 h2 => i.inj o o' pl pl' b base base' ho ho' hb hb' (hlv o h1) (hlv o' h2)⟩
  · cases hx : (getOb H o).live with
    | false =>
      cases hy : getOb H o with
      | dead => trivial
      | box m cs => rw [hy] at hx; cases hx
      | arr m s z => rw [hy] at hx; cases hx
    | true =>
      have h0 := i.ob o pl ho
      rcases hs o hx with ⟨_, _, _, ⟨m, m', cs, h2, h3⟩ | ⟨m, m', s, z, h2, h3⟩⟩ | ⟨m, cs, h2, m', h3, _⟩ | ⟨m, s, z, h2, m', h3, _⟩
      · rw [h3] at h0; rw [h2]; exact h0
      · rw [h3] at h0; rw [h2]; exact h0
      · rw [h2] at h0; rw [h3]; exact h0
      · rw [h2] at h0; rw [h3]; exact h0
  · obtain ⟨h1, h2, h3⟩ := i.own o pl b base ho hb
    refine ⟨h1, h2, fun h4 h5 => h3 (hlv o h4) ?_⟩
    rcases hs o h4 with ⟨_, h6, _⟩ | ⟨m, cs, h6, m', _, h7⟩ | ⟨m, s, z, h6, m', _, h7⟩
    · rw [h5] at h6; cases h6
    · exact h7 h5
    · exact h7 h5
theorem Inv.same (i : Inv w0 ok0 w ok mu h) {H : List Ob} (hs : ∀ o, (getOb H o).live = true → SameC (getOb H o) (getOb h o)) : Inv w0 ok0 w ok mu H :=
  i.less fun o ho => by
    obtain ⟨h1, ⟨m, m', cs, h2, h3⟩ | ⟨m, m', s, z, h2, h3⟩⟩ := hs o ho
    · exact .inr (.inl ⟨m', cs, h3, m, h2, fun h => h1 ▸ h⟩)
    · exact .inr (.inr ⟨m', s, z, h3, m, h2, fun h => h1 ▸ h⟩)

/-- A loop hands on: from a state that is left, over what lay below. -/
theorem take_cfg {wB : World} {okB : Nat → Prop} {muB : Mu} {fr1 : List PV} {base : List Ob} {aB : Act} {W : List Nat} (B : Cfg w0 ok0 wB okB muB ⟨fr1, base⟩ aB) (hW : ∀ t p, t ∈ W → fr1[t]? = some p → p = .undef)
    {st' : St} (c : Cfg w0 ok0 w' ok' mu' st' a') (hl : Later wB okB muB w' ok' mu') (hsame : ∀ t, t ∉ W → a'.tmps[t]? = aB.tmps[t]?) (hsz : a'.tmps.size = aB.tmps.size)
    {L : List (Nat × Kd)} {vs : List IV} {h1 : List Ob} (hp : pack st' L = some vs) (hf : fzs st'.h (frozenBy st' L) = some h1) (hm : mayTake st' h1 L = true)
    (hc : ∀ o, (getOb base o).live = true → o ∉ taken st' L ∧ SameC (getOb base o) (getOb h1 o)) :
    ∃ ok2 mu2, Cfg w0 ok0 w' ok2 mu2 (unpack vs L 0 ⟨fr1, base⟩) a' ∧ Later wB okB muB w' ok2 mu2 := by
  have iz := c.inv.freeze c.fresh hf
  simp only [mayTake, Bool.and_eq_true, List.all_eq_true] at hm
  have hlz : Later wB okB muB w' (okR ok' mu' (frozenBy st' L)) mu' := ⟨⟨hl.keeps.block, fun b hb => .inl (hl.keeps.more b hb)⟩, hl.mu, hl.sizes⟩
  have hlB : Later wB okB muB w' (okR ok' mu' (frozenBy st' L)) muB := ⟨hlz.keeps, fun _ _ h => h, hlz.sizes⟩
  have hdom : ∀ o, muB o ≠ none → muB o = mu' o := fun o ho => by
    cases hx : muB o with
    | none => exact absurd hx ho
    | some pl => exact (hl.mu o pl hx).symm
  have hmid : Cfg w0 ok0 w' (okR ok' mu' (frozenBy st' L)) muB ⟨fr1, base⟩ a' := by
    refine ⟨⟨iz.below, iz.okw, iz.okb, fun o pl ho => ?_, fun o pl b bs ho hb => ?_, fun o o' pl pl' b bs bs' ho ho' hb hb' h2 h3 => ?_⟩, B.fresh, ?_⟩
    · have hb0 := B.inv.ob o pl ho
      have hz := iz.ob o pl (hl.mu o pl ho)
      cases hx : getOb base o with
      | dead => trivial
      | arr m s z =>
        obtain ⟨_, _, h3⟩ := hc o (by rw [hx]; rfl)
        rw [hx] at h3
        rcases h3 with ⟨m1, m2, cs, e1, _⟩ | ⟨m1, m2, s', z', e1, e2⟩
        · cases e1
        · cases e1
          rw [e2] at hz
          exact hz
      | box m cs =>
        obtain ⟨_, _, h3⟩ := hc o (by rw [hx]; rfl)
        rw [hx] at h3 hb0
        rcases h3 with ⟨m1, m2, cs', e1, e2⟩ | ⟨m1, m2, s', z', e1, _⟩
        · cases e1
          rw [e2] at hz
          obtain ⟨b, bs, cc, T, g1, g2, g3, g4⟩ := hz
          obtain ⟨b', bs', cc', T', k1, k2, k3, k4⟩ := hb0
          refine ⟨b, bs, cc, T, g1, g2, g3, fun j p hj => ?_⟩
          obtain ⟨v, g5, g6⟩ := g4 j p hj
          obtain ⟨v', k5, k6⟩ := k4 j p hj
          exact ⟨v, g5, k6.restrict hdom g6⟩
        · cases e1
    · obtain ⟨g1, g2, g3⟩ := iz.own o pl b bs (hl.mu o pl ho) hb
      refine ⟨g1, g2, fun hlv hnf => ?_⟩
      obtain ⟨_, h3⟩ := hc o hlv
      exact g3 h3.live (by rw [← h3.1]; exact hnf)
    · exact iz.inj o o' pl pl' b bs bs' (hl.mu o pl ho) (hl.mu o' pl' ho') hb hb' (hc o h2).2.live (hc o' h3).2.live
    · refine ⟨by rw [B.fr.size, hsz], fun t p v h2 h3 => ?_⟩
      by_cases e : t ∈ W
      · rw [hW t p e h2]; exact .undef v
      · rw [hsame t e] at h3
        exact (B.fr.rel t p v h2 h3).later hlB
  obtain ⟨mu2, c2, e2⟩ := unpack_cfg (vs := vs) c hf L 0 ⟨fr1, base⟩ muB vs hp (fun j _ => by rw [Nat.zero_add]) (fun q hq => hq) hm.1 (fun o ho => ⟨hm.2 o ho, fun pl b bs o2 pl2 bs2 g1 g2 g3 g4 => by
    cases hx : (getOb base o2).live with
    | false => rfl
    | true =>
      obtain ⟨h2, h3⟩ := hc o2 hx
      have := iz.inj o o2 pl pl2 b bs bs2 g1 (hl.mu o2 pl2 g3) g2 g4 (rw_live (hm.2 o ho)).1 h3.live
      subst this
      exact absurd ho h2⟩) hmid
  exact ⟨_, mu2, c2, hlB.keeps, fun o pl ho => e2 o pl ho, hlB.sizes⟩
theorem unpack_grows (vs : List IV) : ∀ (L : List (Nat × Kd)) (i : Nat) (st : St), ∃ news, (unpack vs L i st).h = st.h ++ news
  | [], i, st => ⟨[], by simp [unpack]⟩
  | (t, .I) :: L, i, st => unpack_grows vs L (i + 1) _
  | (t, .S n) :: L, i, st => unpack_grows vs L (i + n) _
  | (t, .B sz) :: L, i, st => by
    obtain ⟨news, e⟩ := unpack_grows vs L (i + 1) ⟨st.fr.set t (.buf st.h.length (llen (nth vs i))), st.h ++ [.arr .rw sz (nth vs i)]⟩
    exact ⟨[.arr .rw sz (nth vs i)] ++ news, by simp only [unpack]; rw [e]; simp⟩
  | (t, .G n) :: L, i, st => by
    obtain ⟨news, e⟩ := unpack_grows vs L (i + n) ⟨st.fr.set t (.ptr st.h.length 0), st.h ++ [.box .rw (immsN vs i n)]⟩
    exact ⟨[.box .rw (immsN vs i n)] ++ news, by simp only [unpack]; rw [e]; simp⟩
  | (t, .M) :: L, i, st => by
    obtain ⟨news, e⟩ := unpack_grows vs L (i + 1) ⟨st.fr.set t (.mp st.h.length), st.h ++ [.arr .rw 0 (nth vs i)]⟩
    exact ⟨[.arr .rw 0 (nth vs i)] ++ news, by simp only [unpack]; rw [e]; simp⟩
  | (t, .O shp) :: L, i, st => by
    obtain ⟨news, e⟩ := unpack_grows vs L (i + shp.length) ⟨st.fr.set t (.ptr (st.h.length + shp.length) 0), st.h ++ (objArrs vs shp i ++ [.box .rw (objCells (st.h.length + shp.length) vs shp st.h.length i)])⟩
    exact ⟨(objArrs vs shp i ++ [.box .rw (objCells (st.h.length + shp.length) vs shp st.h.length i)]) ++ news, by simp only [unpack]; rw [e]; simp⟩
end

/-! ### Code -/
section
variable (Γ : FuncId → Option FSig) (A : Ann)
/-- What must be so of a body, whatever it is run on. -/
def bodyOK : Code → Bool
  | .region id ops draw => if draw then (match A.order id with | some (F, A', B) => drawOK Γ ops F A' B | none => false) else (A.order id).isNone
  | .seq a b => bodyOK a && bodyOK b
  | .cond _ a b => bodyOK a && bodyOK b
  | .block _ a => bodyOK a
  | .loop a => bodyOK a
  | .scope a => bodyOK a
  | _ => true
end
def exOf : Ex → Exit
  | .normal => .normal
  | .exit id => .exit id
  | .ret => .ret
  | .goto l => .goto l
section
variable {P : Program} {Γ : FuncId → Option FSig} {C : IV → List Nat → List (List IV) → Option (List IV)} {A : Ann} {w0 : World} {ok0 : O0}

theorem region_sound {R : Type} (hΓ : GOK P Γ) (hC : COK P C) (hm : P.follows .mixedOrders = true) {id : Nat} {ops : Array Oper} {draw : Bool} (hok : bodyOK Γ A (.region id ops draw) = true) {st : St} {k : St → Option R} {r : R} (hs : execRg P Γ C (A.order id) ops st k = some r)
    {a : Act} {w : World} {ok : Nat → Prop} {mu : Mu} (hc : Cfg w0 ok0 w ok mu st a) {Q : Exit → Act → World → Prop}
    (hk : ∀ (st' : St) (a' : Act) (w' : World) (ok' : Nat → Prop) (mu' : Mu), k st' = some r → Cfg w0 ok0 w' ok' mu' st' a' → Step w ok mu st.h a w' ok' mu' st'.h a' (dsts ops.toList) → Q .normal a' w') : (Code.region id ops draw).wp P Q a w := by
  cases draw with
  | true =>
    simp only [bodyOK, if_true] at hok
    split at hok
    · rename_i F A' B ho
      rw [ho] at hs
      exact draw_sound hΓ hC hm hok hs hc hk
    · cases hok
  | false =>
    simp only [bodyOK, Bool.false_eq_true, if_false, Option.isNone_iff_eq_none] at hok
    rw [hok] at hs
    exact text_sound hΓ hC hs hc hk
theorem leaves_fr {fr' : List PV} {w' : World} {ok' : Nat → Prop} {mu' mu2 : Mu} {tmps : Array Value} (r' : Fr w' ok' mu' fr' tmps) {lv : List IV} : ∀ (L : List Nat) (i : Nat) (l : List IV) (fr : List PV), leaves fr' L = some l → (∀ j, j < l.length → nth lv (i + j) = nth l j) → Fr w' ok' mu2 fr tmps → Fr w' ok' mu2 (setLeaves lv L i fr) tmps
  | [], i, l, fr, _, _, r => r
  | t :: L, i, l, fr, hl, hn, r => by
    simp only [leaves] at hl
    split at hl
    · rename_i x l' hx hl'
      cases hl
      simp only [setLeaves]
      refine leaves_fr r' L (i + 1) l' _ hl' (fun j hj => ?_) (r.upd fun v hv => ?_)
      · have := hn (j + 1) (by simp; omega)
        rw [show i + 1 + j = i + (j + 1) by omega, this]; rfl
      · have h0 := hn 0 (by simp)
        rw [Nat.add_zero] at h0
        rw [h0]
        have := r'.at hv
        rw [hx] at this
        cases this with | imm h => exact .imm h
    · cases hl
theorem exOf_inj {e e' : Ex} (h : exOf e = exOf e') : e = e' := by
  cases e <;> cases e' <;> simp [exOf] at h <;> first | rfl | (subst h; rfl)
/-- Rounds of a loop, whatever it is that goes on. -/
theorem loop_core {x : Code} {e0 : Ex} (ih : ∀ (R : Type) (st : St) (K : Ex → St → Option R) (r : R), exec P Γ C A x R st K = some r → ∀ (a : Act) (w : World) (ok : Nat → Prop) (mu : Mu), Cfg w0 ok0 w ok mu st a → ∀ (Q : Exit → Act → World → Prop),
      (∀ (e : Ex) (st' : St) (a' : Act) (w' : World) (ok' : Nat → Prop) (mu' : Mu), K e st' = some r → Cfg w0 ok0 w' ok' mu' st' a' → Step w ok mu st.h a w' ok' mu' st'.h a' (writes x) → Q (exOf e) a' w') → x.wp P Q a w)
    {R : Type} {st : St} {K : Ex → St → Option R} {r : R} {a : Act} {w : World} {ok : Nat → Prop} {mu : Mu} (hc : Cfg w0 ok0 w ok mu st a) {vs0 : List IV} {h1 : List Ob} (hp : pack st (A.loop (firstRegion x)).1 = some vs0) (hf : fzs st.h (frozenBy st (A.loop (firstRegion x)).1) = some h1)
    (hmt' : mayTake st h1 (A.loop (firstRegion x)).1 = true) {kk : Ex → St → Option SR} {ke : Nat} {vsE : List IV}
    (hit : iter rounds (fun vs => exec P Γ C A x SR (unpack vs (A.loop (firstRegion x)).1 0 ⟨forget st.fr (writes x), (kill h1 (taken st (A.loop (firstRegion x)).1)).map lockOb⟩) kk) vs0 = some (ke, vsE))
    (hk1 : ∀ st', kk e0 st' = (packed st' (A.loop (firstRegion x)).1).map .next) (hk2 : ∀ e st', e ≠ e0 → kk e st' = (packed st' ((A.loop (firstRegion x)).2.getD ((exits x).idxOf e) [])).map (.done ((exits x).idxOf e)))
    (hsel : sel ke ((exits x).map fun e => K e (unpack vsE ((A.loop (firstRegion x)).2.getD ((exits x).idxOf e) []) 0 ⟨forget st.fr (writes x), kill h1 (taken st (A.loop (firstRegion x)).1)⟩)) = some r)
    {Q : Exit → Act → World → Prop} (hQ : ∀ (e : Ex) (st' : St) (a' : Act) (w' : World) (ok' : Nat → Prop) (mu' : Mu), K e st' = some r → Cfg w0 ok0 w' ok' mu' st' a' → Step w ok mu st.h a w' ok' mu' st'.h a' (writes x) → Q (exOf e) a' w')
    {RD : Nat → Act → World → Prop} (hRD : ∀ n a w, x.wp P (fun e a' w' => (e = exOf e0 ∧ RD n a' w') ∨ (e ≠ exOf e0 ∧ Q e a' w')) a w → RD (n + 1) a w) : RD rounds a w := by
  generalize hL : (A.loop (firstRegion x)).1 = L at *
  generalize hLs : (A.loop (firstRegion x)).2 = Ls at *
  have hall : ∀ o ∈ taken st L, isRw (getOb h1 o) = true := by
    have := hmt'
    simp only [mayTake, Bool.and_eq_true, List.all_eq_true] at this
    exact this.2
  have hfro := fzs_spec hf
  -- what lies below
  have hbase : ∀ o, (getOb (kill h1 (taken st L)) o).live = true → o ∉ taken st L ∧ getOb (kill h1 (taken st L)) o = getOb h1 o := fun o ho => by
    rw [kill_get] at ho ⊢
    by_cases e : o ∈ taken st L
    · rw [if_pos e] at ho; cases ho
    · rw [if_neg e]; exact ⟨e, rfl⟩
  have hinvB : Inv w0 ok0 w ok mu (kill h1 (taken st L)) := hc.inv.less fun o ho => by
    obtain ⟨_, e⟩ := hbase o ho
    rw [e] at ho ⊢
    rcases hfro.same o with e1 | ⟨hz, cs, m, e1, e2⟩ | ⟨s, z, m, e1, e2⟩
    · rw [e1] at ho ⊢
      cases hx : getOb st.h o with
      | dead => rw [hx] at ho; cases ho
      | box m cs => exact .inr (.inl ⟨m, cs, rfl, m, rfl, fun h => h⟩)
      | arr m s z => exact .inr (.inr ⟨m, s, z, rfl, m, rfl, fun h => h⟩)
    · exact .inr (.inl ⟨m, cs, e1, .fz, e2, fun h => by rw [e2] at h; cases h⟩)
    · exact .inr (.inr ⟨m, s, z, e1, .fz, e2, fun h => by rw [e2] at h; cases h⟩)
  have hlenB : (kill h1 (taken st L)).length = st.h.length := by rw [kill_length, hfro.len]
  have hfrB : Fr w ok mu (forget st.fr (writes x)) a.tmps := hc.fr.forget _
  have hB0 : Cfg w0 ok0 w ok mu ⟨forget st.fr (writes x), kill h1 (taken st L)⟩ a := ⟨hinvB, fun q hq => hc.fresh q (by simpa [hlenB] using hq), hfrB⟩
  have hBL : Cfg w0 ok0 w ok mu ⟨forget st.fr (writes x), (kill h1 (taken st L)).map lockOb⟩ a := ⟨hinvB.same fun o ho => by rw [getOb_lock] at ho ⊢; exact lockOb_same (by rw [← lockOb_live]; exact ho), fun q hq => hc.fresh q (by simpa [hlenB] using hq), hfrB⟩
  have hW : ∀ (t : Nat) (p : PV), t ∈ writes x → (forget st.fr (writes x))[t]? = some p → p = .undef := fun t p => forget_get _ _ t p
  -- the first round's beginning
  have hentry : ∃ ok2 mu2, Cfg w0 ok0 w ok2 mu2 (unpack vs0 L 0 ⟨forget st.fr (writes x), (kill h1 (taken st L)).map lockOb⟩) a ∧ Later w ok mu w ok2 mu2 :=
    take_cfg hBL hW hc (.refl _ _ _) (fun _ _ => rfl) rfl hp hf hmt' fun o ho => by
      rw [getOb_lock] at ho ⊢
      rw [lockOb_live] at ho
      obtain ⟨h2, h3⟩ := hbase o ho
      exact ⟨h2, by have := lockOb_same ho; rwa [h3] at this ⊢⟩
  have hstayB : Stay st.h (kill h1 (taken st L)) := ⟨by rw [hlenB]; exact Nat.le_refl _, fun o ho hnr => by
    have h2 := (fzs_stay hf).keep o ho hnr
    rw [kill_get, if_neg fun e => by
      have := hall o e
      rw [h2, hnr] at this; cases this]
    exact h2⟩
  -- the rounds
  have hrounds : ∀ (n : Nat) (vs : List IV) (a1 : Act) (w1 : World) (ok1 : Nat → Prop) (mu1 : Mu), iter n (fun vs => exec P Γ C A x SR (unpack vs L 0 ⟨forget st.fr (writes x), (kill h1 (taken st L)).map lockOb⟩) kk) vs = some (ke, vsE) →
      Cfg w0 ok0 w1 ok1 mu1 (unpack vs L 0 ⟨forget st.fr (writes x), (kill h1 (taken st L)).map lockOb⟩) a1 → Later w ok mu w1 ok1 mu1 → (∀ t, t ∉ writes x → a1.tmps[t]? = a.tmps[t]?) → a1.tmps.size = a.tmps.size → a1.defers = a.defers → RD n a1 w1 := by
    intro n
    induction n with
    | zero => intro vs a1 w1 ok1 mu1 hi; cases hi
    | succ n ihn =>
      intro vs a1 w1 ok1 mu1 hi hc1 hl1 hsame1 hsz1 hd1
      simp only [iter] at hi
      obtain ⟨sr, hsr, hnext⟩ := Option.bind_eq_some_iff.1 hi
      refine hRD n a1 w1 ?_
      obtain ⟨news, hnews⟩ := unpack_grows vs L 0 ⟨forget st.fr (writes x), (kill h1 (taken st L)).map lockOb⟩
      refine ih SR _ _ sr hsr a1 w1 ok1 mu1 hc1 _ fun e st' a' w' ok' mu' hk hc' hst => ?_
      have hl' : Later w ok mu w' ok' mu' := hl1.trans hst.later
      have hsame' : ∀ t, t ∉ writes x → a'.tmps[t]? = a.tmps[t]? := fun t ht => (hst.same t ht).trans (hsame1 t ht)
      have hsz' : a'.tmps.size = a.tmps.size := hst.size.trans hsz1
      -- what is below stands as it did
      have hstill : ∀ {L' : List (Nat × Kd)} {h2 : List Ob}, fzs st'.h (frozenBy st' L') = some h2 → mayTake st' h2 L' = true → ∀ o, (getOb (kill h1 (taken st L)) o).live = true → o ∉ taken st' L' ∧ getOb h2 o = lockOb (getOb (kill h1 (taken st L)) o) := by
        intro L' h2 hf2 hm2 o ho
        have hol : o < (kill h1 (taken st L)).length := getOb_lt ho
        have e1 : getOb (unpack vs L 0 ⟨forget st.fr (writes x), (kill h1 (taken st L)).map lockOb⟩).h o = lockOb (getOb (kill h1 (taken st L)) o) := by
          rw [hnews, getOb_append, if_pos (by simpa using hol), getOb_lock]
        have hol2 : o < (unpack vs L 0 ⟨forget st.fr (writes x), (kill h1 (taken st L)).map lockOb⟩).h.length := by
          rw [hnews, List.length_append, List.length_map]; omega
        have e2 := hst.stay.keep o hol2 (by rw [e1]; exact lockOb_rw _)
        have e3 := (fzs_stay hf2).keep o (Nat.lt_of_lt_of_le hol2 hst.stay.len) (by rw [e2, e1]; exact lockOb_rw _)
        have e4 : getOb h2 o = lockOb (getOb (kill h1 (taken st L)) o) := by rw [e3, e2, e1]
        refine ⟨fun hin => ?_, e4⟩
        simp only [mayTake, Bool.and_eq_true, List.all_eq_true] at hm2
        have := hm2.2 o hin
        rw [e4, lockOb_rw] at this; cases this
      have unpacked : ∀ {L' : List (Nat × Kd)} {vs' : List IV}, packed st' L' = some vs' → ∃ h2, pack st' L' = some vs' ∧ fzs st'.h (frozenBy st' L') = some h2 ∧ mayTake st' h2 L' = true := by
        intro L' vs' h
        unfold packed at h
        split at h
        · rename_i q1 q2
          split at h
          · cases h; exact ⟨_, q1, q2, ‹_›⟩
          · cases h
        · cases h
      have leave : ∀ (e : Ex), (packed st' (Ls.getD ((exits x).idxOf e) [])).map (SR.done ((exits x).idxOf e)) = some sr → Q (exOf e) a' w' := by
        intro e hk
        obtain ⟨vs', hk1, rfl⟩ := Option.map_eq_some_iff.1 hk
        simp only [Option.some.injEq, Prod.mk.injEq] at hnext
        obtain ⟨rfl, rfl⟩ := hnext
        obtain ⟨h2, g1, g2, g3⟩ := unpacked hk1
        obtain ⟨ok2, mu2, c2, l2⟩ := take_cfg hB0 hW hc' hl' hsame' hsz' g1 g2 g3 fun o ho => by
          obtain ⟨q1, q2⟩ := hstill g2 g3 o ho
          exact ⟨q1, by rw [q2]; exact (lockOb_same ho).symm⟩
        unfold sel at hsel
        rw [List.getD_eq_getElem?_getD, List.getElem?_map] at hsel
        by_cases hin : e ∈ exits x
        · have hlt := List.idxOf_lt_length_of_mem hin
          rw [List.getElem?_eq_getElem hlt, List.getElem_idxOf hlt] at hsel
          simp only [Option.map_some, Option.getD_some] at hsel
          obtain ⟨news2, hnews2⟩ := unpack_grows vs' (Ls.getD ((exits x).idxOf e) []) 0 ⟨forget st.fr (writes x), kill h1 (taken st L)⟩
          exact hQ e _ a' w' ok2 mu2 hsel c2 ⟨l2, by rw [hnews2]; exact hstayB.trans (.append _ _), hst.defers.trans hd1, hsame', hsz'⟩
        · rw [List.getElem?_eq_none (by rw [List.idxOf_eq_length hin]; exact Nat.le_refl _)] at hsel
          cases hsel
      by_cases he : e = e0
      · subst he
        rw [hk1] at hk
        obtain ⟨vs', hk1', rfl⟩ := Option.map_eq_some_iff.1 hk
        simp only at hnext
        obtain ⟨h2, g1, g2, g3⟩ := unpacked hk1'
        obtain ⟨ok2, mu2, c2, l2⟩ := take_cfg hBL hW hc' hl' hsame' hsz' g1 g2 g3 fun o ho => by
          rw [getOb_lock] at ho ⊢
          rw [lockOb_live] at ho
          obtain ⟨q1, q2⟩ := hstill g2 g3 o ho
          exact ⟨q1, by
            rw [q2]
            have := lockOb_same ho
            exact ⟨rfl, by
              rcases this.2 with ⟨m, m', cs, e1, e2⟩ | ⟨m, m', s, z, e1, e2⟩
              · exact .inl ⟨m, m, cs, e1, e1⟩
              · exact .inr ⟨m, m, s, z, e1, e1⟩⟩⟩
        refine .inl ⟨rfl, ?_⟩
        exact ihn vs' a' w' ok2 mu2 hnext c2 l2 hsame' hsz' (hst.defers.trans hd1)
      · rw [hk2 e st' he] at hk
        refine .inr ⟨fun h => he (exOf_inj h), leave e hk⟩
  obtain ⟨ok2, mu2, c2, l2⟩ := hentry
  exact hrounds rounds vs0 a w ok2 mu2 hit c2 l2 (fun _ _ => rfl) rfl rfl
theorem exec_sound (hΓ : GOK P Γ) (hC : COK P C) (hm : P.follows .mixedOrders = true) : ∀ (c : Code), bodyOK Γ A c = true → ∀ (R : Type) (st : St) (K : Ex → St → Option R) (r : R), exec P Γ C A c R st K = some r → ∀ (a : Act) (w : World) (ok : Nat → Prop) (mu : Mu), Cfg w0 ok0 w ok mu st a → ∀ (Q : Exit → Act → World → Prop),
    (∀ (e : Ex) (st' : St) (a' : Act) (w' : World) (ok' : Nat → Prop) (mu' : Mu), K e st' = some r → Cfg w0 ok0 w' ok' mu' st' a' → Step w ok mu st.h a w' ok' mu' st'.h a' (writes c) → Q (exOf e) a' w') → c.wp P Q a w := by
  intro c
  induction c with
  | skip => intro _ R st K r hs a w ok mu hc Q hQ; exact wp_skip (hQ .normal st a w ok mu hs hc (.refl _ _ _ _ _ _))
  | label l => intro _ R st K r hs a w ok mu hc Q hQ; exact wp_label (hQ .normal st a w ok mu hs hc (.refl _ _ _ _ _ _))
  | ret => intro _ R st K r hs a w ok mu hc Q hQ; exact wp_ret (hQ .ret st a w ok mu hs hc (.refl _ _ _ _ _ _))
  | goto l => intro _ R st K r hs a w ok mu hc Q hQ; exact wp_goto (hQ (.goto l) st a w ok mu hs hc (.refl _ _ _ _ _ _))
  | exit id => intro _ R st K r hs a w ok mu hc Q hQ; exact wp_exit (hQ (.exit id) st a w ok mu hs hc (.refl _ _ _ _ _ _))
  | seq x y ihx ihy =>
    intro hok R st K r hs a w ok mu hc Q hQ
    simp only [bodyOK, Bool.and_eq_true] at hok
    simp only [exec] at hs
    refine wp_seq (ihx hok.1 R st _ r hs a w ok mu hc _ fun e st' a' w' ok' mu' hk hc' hst => ?_)
    cases e with
    | normal => exact ihy hok.2 R st' K r hk a' w' ok' mu' hc' Q fun e st2 a2 w2 ok2 mu2 hk2 hc2 hst2 => hQ e st2 a2 w2 ok2 mu2 hk2 hc2 (hst.trans hst2)
    | exit id => exact hQ (.exit id) st' a' w' ok' mu' hk hc' (hst.sub fun t ht => List.mem_append_left _ ht)
    | ret => exact hQ .ret st' a' w' ok' mu' hk hc' (hst.sub fun t ht => List.mem_append_left _ ht)
    | goto l => exact hQ (.goto l) st' a' w' ok' mu' hk hc' (hst.sub fun t ht => List.mem_append_left _ ht)
  | block id x ih =>
    intro hok R st K r hs a w ok mu hc Q hQ
    simp only [bodyOK] at hok
    simp only [exec] at hs
    refine wp_block (ih hok R st _ r hs a w ok mu hc _ fun e st' a' w' ok' mu' hk hc' hst => ?_)
    cases e with
    | normal => exact hQ .normal st' a' w' ok' mu' hk hc' hst
    | exit j =>
      simp only at hk
      simp only [exOf, Exit.inBlock]
      split at hk
      · rename_i e; rw [if_pos e]; exact hQ .normal st' a' w' ok' mu' hk hc' hst
      · rename_i e; rw [if_neg e]; exact hQ (.exit j) st' a' w' ok' mu' hk hc' hst
    | ret => exact hQ .ret st' a' w' ok' mu' hk hc' hst
    | goto l => exact hQ (.goto l) st' a' w' ok' mu' hk hc' hst
  | scope x ih =>
    intro hok R st K r hs a w ok mu hc Q hQ
    simp only [bodyOK] at hok
    simp only [exec] at hs
    refine wp_scope_straight (ih hok R st _ r hs a w ok mu hc _ fun e st' a' w' ok' mu' hk hc' hst => ?_)
    cases e with
    | goto l => cases hk
    | normal => exact hQ .normal st' a' w' ok' mu' hk hc' hst
    | exit j => exact hQ (.exit j) st' a' w' ok' mu' hk hc' hst
    | ret => exact hQ .ret st' a' w' ok' mu' hk hc' hst
  | cond x y z ihy ihz =>
    intro hok R st K r hs a w ok mu hc Q hQ
    simp only [bodyOK, Bool.and_eq_true] at hok
    simp only [exec] at hs
    split at hs
    · rename_i v hv
      have hr := hc.fr.ev x
      rw [hv] at hr
      rcases icond_some hs with ⟨rfl, h1⟩ | ⟨rfl, h1⟩
      · refine wp_cond_true (by generalize a.eval x = u at hr; cases hr with | imm hr => cases hr; rfl) (ihy hok.1 R st K r h1 a w ok mu hc Q fun e st' a' w' ok' mu' hk hc' hst => hQ e st' a' w' ok' mu' hk hc' (hst.sub fun t ht => List.mem_append_left _ ht))
      · refine wp_cond_false (by generalize a.eval x = u at hr; cases hr with | imm hr => cases hr; rfl) (ihz hok.2 R st K r h1 a w ok mu hc Q fun e st' a' w' ok' mu' hk hc' hst => hQ e st' a' w' ok' mu' hk hc' (hst.sub fun t ht => List.mem_append_right _ ht))
    · cases hs
  | region id ops draw =>
    intro hok R st K r hs a w ok mu hc Q hQ
    simp only [exec] at hs
    split at hs
    · exact region_sound hΓ hC hm hok hs hc fun st' a' w' ok' mu' hk hc' hst => hQ .normal st' a' w' ok' mu' hk hc' hst
    · rename_i L hj
      obtain ⟨lv, h1, h2⟩ := Option.bind_eq_some_iff.1 hs
      have hlock : Cfg w0 ok0 w ok mu ⟨st.fr, st.h.map lockOb⟩ a := ⟨hc.inv.same fun o ho => by rw [getOb_lock] at ho ⊢; exact lockOb_same (by rw [← lockOb_live]; exact ho), by simpa using hc.fresh, hc.fr⟩
      refine region_sound hΓ hC hm hok h1 hlock fun st' a' w' ok' mu' hk hc' hst => ?_
      have hlt : ∀ {o pl}, mu o = some pl → o < st.h.length := fun {o pl} ho => by
        rcases Nat.lt_or_ge o st.h.length with h1 | h1
        · exact h1
        · rw [hc.fresh o h1] at ho; cases ho
      have hstay : ∀ o, o < st.h.length → getOb st'.h o = lockOb (getOb st.h o) := fun o ho => by
        rw [hst.stay.keep o (by simpa using ho) (by rw [getOb_lock]; exact lockOb_rw _), getOb_lock]
      have hl0 : Later w ok mu w' ok' mu := ⟨hst.later.keeps, fun _ _ h => h, hst.later.sizes⟩
      have hdom : ∀ o, mu o ≠ none → mu o = mu' o := fun o ho => by
        cases hx : mu o with
        | none => exact absurd hx ho
        | some pl => exact (hst.later.mu o pl hx).symm
      have hinv : Inv w0 ok0 w' ok' mu st.h := by
        have i' := hc'.inv
        refine ⟨i'.below, i'.okw, i'.okb, fun o pl ho => ?_, fun o pl b bs ho hb => ?_, fun o o' pl pl' b bs bs' ho ho' hb hb' h3 h4 => ?_⟩
        · have hz := i'.ob o pl (hst.later.mu o pl ho)
          rw [hstay o (hlt ho)] at hz
          have hb0 := hc.inv.ob o pl ho
          cases hx : getOb st.h o with
          | dead => trivial
          | arr m s z => rw [hx] at hz; cases m <;> exact hz
          | box m cs =>
            rw [hx] at hz hb0
            have hz' : ObOk w' ok' mu' pl (.box m cs) := by cases m <;> exact hz
            obtain ⟨b, bs, cc, T, g1, g2, g3, g4⟩ := hz'
            obtain ⟨b', bs', cc', T', k1, k2, k3, k4⟩ := hb0
            refine ⟨b, bs, cc, T, g1, g2, g3, fun j p hj => ?_⟩
            obtain ⟨v, g5, g6⟩ := g4 j p hj
            obtain ⟨v', k5, k6⟩ := k4 j p hj
            exact ⟨v, g5, k6.restrict hdom g6⟩
        · obtain ⟨g1, g2, g3⟩ := i'.own o pl b bs (hst.later.mu o pl ho) hb
          refine ⟨g1, g2, fun hlv hnf => ?_⟩
          rw [hstay o (hlt ho)] at g3
          exact g3 (by rw [lockOb_live]; exact hlv) (by rw [(lockOb_same hlv).1]; exact hnf)
        · refine i'.inj o o' pl pl' b bs bs' (hst.later.mu o pl ho) (hst.later.mu o' pl' ho') hb hb' ?_ ?_
          · rw [hstay o (hlt ho), lockOb_live]; exact h3
          · rw [hstay o' (hlt ho'), lockOb_live]; exact h4
      refine hQ .normal _ a' w' ok' mu h2 ⟨hinv, hc.fresh, ?_⟩ ⟨hl0, .refl _, hst.defers, hst.same, hst.size⟩
      exact leaves_fr hc'.fr L 0 lv _ hk (fun j _ => by rw [Nat.zero_add]) (hc.fr.turned hl0 hst.same hst.size)
  | loop x ih =>
    intro hok R st K r hs a w ok mu hc Q hQ
    simp only [bodyOK] at hok
    simp only [exec] at hs
    split at hs
    · rename_i vs0 h1 hp hf
      split at hs
      · cases hs
      · rename_i hmt
        obtain ⟨⟨ke, vsE⟩, hit, hsel⟩ := Option.bind_eq_some_iff.1 hs
        refine wp_loop_rounds rounds (loop_core (A := A) (e0 := .normal) (ih hok) hc hp hf (by simpa using hmt) hit (fun st' => rfl) (fun e st' he => ?_) hsel hQ (RD := Code.rounds P x Q) fun n a w h => ?_)
        · cases e with
          | normal => exact absurd rfl he
          | _ => rfl
        · rw [rounds_succ]
          refine wp_mono h fun e a w h => ?_
          rcases h with ⟨rfl, h⟩ | ⟨he, h⟩
          · exact h
          · cases e with
            | normal => exact absurd rfl he
            | _ => exact h
    · cases hs
  | _ => intro _ R st K r hs; simp [exec] at hs
/-! ### A label that is come back to -/
def gotoQ (P : Program) (rest : Code) (l : Nat) (Q : Exit → Act → World → Prop) : Nat → Exit → Act → World → Prop
  | 0 => fun e a w => match e with | .goto _ => False | e => Q e a w
  | n + 1 => fun e a w => match e with | .goto l' => l' = l ∧ rest.wp P (gotoQ P rest l Q n) a w | e => Q e a w
theorem gotoQ_of {rest : Code} {l : Nat} {Q : Exit → Act → World → Prop} {a : Act} {w : World} : ∀ (n : Nat) {e : Exit}, (∀ l', e ≠ .goto l') → Q e a w → gotoQ P rest l Q n e a w
  | 0, e, he, h => by cases e <;> first | exact absurd rfl (he _) | exact h
  | n + 1, e, he, h => by cases e <;> first | exact absurd rfl (he _) | exact h
theorem wp_scope_goto {body rest : Code} {l : Nat} (hf : findLabel body l = some rest) {Q : Exit → Act → World → Prop} {a : Act} {w : World} (n : Nat) (h : body.wp P (gotoQ P rest l Q n) a w) : (Code.scope body).wp P Q a w := by
  intro b k cs
  have key : ∀ (n : Nat) (c : Code) (a : Act) (w : World), c.wp P (gotoQ P rest l Q n) a w → ∃ e a' w', Q e a' w' ∧ Arrives P (lone (b.at a (.code c :: .inScope body :: k)) cs w) b k cs e a' w' := by
    intro n
    induction n with
    | zero =>
      intro c a w h
      obtain ⟨e, a1, w1, hq, harr⟩ := h b (.inScope body :: k) cs
      cases e with
      | goto l => exact hq.elim
      | normal => exact ⟨.normal, a1, w1, hq, Steps.trans harr (.one step_inScope)⟩
      | exit id => exact ⟨.exit id, a1, w1, hq, fun k' hk => harr k' (by simp [exitTo, hk])⟩
      | ret => exact ⟨_, a1, w1, hq, harr⟩
      | panic ch => exact ⟨_, a1, w1, hq, harr⟩
      | outgrown => exact ⟨_, a1, w1, hq, harr⟩
    | succ n ih =>
      intro c a w h
      obtain ⟨e, a1, w1, hq, harr⟩ := h b (.inScope body :: k) cs
      cases e with
      | goto l' =>
        obtain ⟨rfl, hr⟩ := hq
        obtain ⟨e2, a2, w2, hq2, harr2⟩ := ih rest a1 w1 hr
        exact ⟨e2, a2, w2, hq2, .of_steps (harr _ (by simp [gotoIn, hf])) harr2⟩
      | normal => exact ⟨.normal, a1, w1, hq, Steps.trans harr (.one step_inScope)⟩
      | exit id => exact ⟨.exit id, a1, w1, hq, fun k' hk => harr k' (by simp [exitTo, hk])⟩
      | ret => exact ⟨_, a1, w1, hq, harr⟩
      | panic ch => exact ⟨_, a1, w1, hq, harr⟩
      | outgrown => exact ⟨_, a1, w1, hq, harr⟩
  obtain ⟨e, a', w', hq, harr⟩ := key n body a w h
  exact ⟨e, a', w', hq, .of_steps (.one step_scope) harr⟩
def chainL : Code → Option Nat
  | .seq a b => match a with | .label l => some l | _ => chainL b
  | _ => none
def chainChk (l : Nat) : Code → Bool
  | .seq a b => match a with | .label l' => decide (l' = l) | a => (findLabel a l).isNone && chainChk l b
  | _ => false
def chainOK (l : Nat) (rest : Code) : Code → Prop
  | .seq a b => match a with | .label l' => l' = l ∧ rest = .seq .skip b | _ => chainOK l rest b
  | _ => True
theorem chainChk_find {l : Nat} : ∀ (c : Code), chainChk l c = true → ∃ rest, findLabel c l = some rest ∧ chainOK l rest c := by
  intro c
  induction c with
  | seq a b _ ihb =>
    intro h
    by_cases ha : ∃ l', a = .label l'
    · obtain ⟨l', rfl⟩ := ha
      simp only [chainChk, decide_eq_true_eq] at h
      subst h
      exact ⟨.seq .skip b, by simp [findLabel], rfl, rfl⟩
    · have h' : (findLabel a l).isNone = true ∧ chainChk l b = true := by
        cases a <;> first | exact absurd ⟨_, rfl⟩ ha | (simpa [chainChk] using h)
      obtain ⟨rest, h1, h2⟩ := ihb h'.2
      refine ⟨rest, ?_, ?_⟩
      · simp only [findLabel]
        rw [Option.isNone_iff_eq_none.1 h'.1]
        exact h1
      · cases a <;> first | exact absurd ⟨_, rfl⟩ ha | exact h2
  | _ => intro h; simp [chainChk] at h
theorem chain_sound (hΓ : GOK P Γ) (hC : COK P C) (hm : P.follows .mixedOrders = true) {l : Nat} {rest : Code} {Q : Exit → Act → World → Prop} : ∀ (c : Code), bodyOK Γ A c = true → chainOK l rest c → ∀ (R : Type) (st : St) (K : Ex → St → Option R) (r : R), execChain P Γ C A c R st K = some r → (∀ l st', K (.goto l) st' = none) →
    ∀ (a : Act) (w : World) (ok : Nat → Prop) (mu : Mu), Cfg w0 ok0 w ok mu st a → (∀ (e : Ex) (st' : St) (a' : Act) (w' : World) (ok' : Nat → Prop) (mu' : Mu), K e st' = some r → Cfg w0 ok0 w' ok' mu' st' a' → Step w ok mu st.h a w' ok' mu' st'.h a' (writes c) → Q (exOf e) a' w') → c.wp P (gotoQ P rest l Q rounds) a w := by
  intro c
  have plain : ∀ (c : Code), bodyOK Γ A c = true → ∀ (R : Type) (st : St) (K : Ex → St → Option R) (r : R), exec P Γ C A c R st K = some r → (∀ l st', K (.goto l) st' = none) →
      ∀ (a : Act) (w : World) (ok : Nat → Prop) (mu : Mu), Cfg w0 ok0 w ok mu st a → (∀ (e : Ex) (st' : St) (a' : Act) (w' : World) (ok' : Nat → Prop) (mu' : Mu), K e st' = some r → Cfg w0 ok0 w' ok' mu' st' a' → Step w ok mu st.h a w' ok' mu' st'.h a' (writes c) → Q (exOf e) a' w') → c.wp P (gotoQ P rest l Q rounds) a w := by
    intro c hok R st K r hs hK a w ok mu hc hQ
    refine exec_sound hΓ hC hm c hok R st K r hs a w ok mu hc _ fun e st' a' w' ok' mu' hk hc' hst => ?_
    have h := hQ e st' a' w' ok' mu' hk hc' hst
    cases e with
    | goto l' => rw [hK] at hk; cases hk
    | normal => exact gotoQ_of _ (fun _ h => by cases h) h
    | exit j => exact gotoQ_of _ (fun _ h => by cases h) h
    | ret => exact gotoQ_of _ (fun _ h => by cases h) h
  induction c with
  | seq x y _ ihy =>
    intro hok hch R st K r hs hK a w ok mu hc hQ
    simp only [bodyOK, Bool.and_eq_true] at hok
    by_cases hx : ∃ l', x = .label l'
    · obtain ⟨l', rfl⟩ := hx
      obtain ⟨rfl, rfl⟩ := hch
      refine wp_seq (wp_label ?_)
      show y.wp P _ a w
      have hQ' : ∀ (e : Ex) (st' : St) (a' : Act) (w' : World) (ok' : Nat → Prop) (mu' : Mu), K e st' = some r → Cfg w0 ok0 w' ok' mu' st' a' → Step w ok mu st.h a w' ok' mu' st'.h a' (writes y) → Q (exOf e) a' w' := fun e st' a' w' ok' mu' hk hc' hst => hQ e st' a' w' ok' mu' hk hc' (hst.sub fun t ht => List.mem_append_right _ ht)
      simp only [execChain] at hs
      split at hs
      · unfold execGo at hs
        simp only at hs
        split at hs
        · rename_i vs0 h1 hp hf
          split at hs
          · cases hs
          · rename_i hmt
            obtain ⟨⟨ke, vsE⟩, hit, hsel⟩ := Option.bind_eq_some_iff.1 hs
            refine loop_core (A := A) (e0 := .goto l') (fun R st K r => exec_sound hΓ hC hm y hok.2 R st K r) hc hp hf (by simpa using hmt) hit (fun st' => by simp) (fun e st' he => by simp [he]) hsel
              (Q := fun e a w => match e with | .goto _ => False | e => Q e a w) (fun e st' a' w' ok' mu' hk hc' hst => ?_) (RD := fun n a w => y.wp P (gotoQ P (.seq .skip y) l' Q n) a w) fun n a w h => ?_
            · have h := hQ' e st' a' w' ok' mu' hk hc' hst
              cases e with
              | goto l' => rw [hK] at hk; cases hk
              | normal => exact h
              | exit j => exact h
              | ret => exact h
            · refine wp_mono h fun e a w h => ?_
              rcases h with ⟨rfl, h⟩ | ⟨he, h⟩
              · exact ⟨rfl, wp_seq (wp_skip h)⟩
              · cases e with
                | goto l2 => exact h.elim
                | _ => exact h
        · cases hs
      · exact plain y hok.2 R st K r hs hK a w ok mu hc hQ'
    · have hs' : exec P Γ C A x R st (fun e st' => match e with | .normal => execChain P Γ C A y R st' K | e => K e st') = some r := by
        cases x <;> first | exact absurd ⟨_, rfl⟩ hx | exact hs
      have hch' : chainOK l rest y := by
        cases x <;> first | exact absurd ⟨_, rfl⟩ hx | exact hch
      refine wp_seq (exec_sound hΓ hC hm x hok.1 R st _ r hs' a w ok mu hc _ fun e st' a' w' ok' mu' hk hc' hst => ?_)
      cases e with
      | normal => exact ihy hok.2 hch' R st' K r hk hK a' w' ok' mu' hc' fun e st2 a2 w2 ok2 mu2 hk2 hc2 hst2 => hQ e st2 a2 w2 ok2 mu2 hk2 hc2 (hst.trans hst2)
      | goto l' => simp only at hk; rw [hK] at hk; cases hk
      | exit j => exact gotoQ_of _ (fun _ h => by cases h) (hQ (.exit j) st' a' w' ok' mu' hk hc' (hst.sub fun t ht => List.mem_append_left _ ht))
      | ret => exact gotoQ_of _ (fun _ h => by cases h) (hQ .ret st' a' w' ok' mu' hk hc' (hst.sub fun t ht => List.mem_append_left _ ht))
  | _ => intro hok _ R st K r hs hK a w ok mu hc hQ; exact plain _ hok R st K r hs hK a w ok mu hc hQ
/-- What must be so of a function's body. -/
def topOK : Code → Bool
  | .seq _ b => topOK b
  | .scope b => if (exits b).any isGoto then (match chainL b with | some l => chainChk l b | none => false) else true
  | _ => true
def fnOK (Γ : FuncId → Option FSig) (A : Ann) (c : Code) : Bool := bodyOK Γ A c && topOK c
theorem top_sound (hΓ : GOK P Γ) (hC : COK P C) (hm : P.follows .mixedOrders = true) : ∀ (c : Code) (hok : fnOK Γ A c = true) (R : Type) (st : St) (K : Ex → St → Option R) (r : R) (hs : execTop P Γ C A c R st K = some r) (hK : ∀ l st', K (.goto l) st' = none) (a : Act) (w : World) (ok : Nat → Prop) (mu : Mu) (hc : Cfg w0 ok0 w ok mu st a) (Q : Exit → Act → World → Prop)
    (hQ : ∀ (e : Ex) (st' : St) (a' : Act) (w' : World) (ok' : Nat → Prop) (mu' : Mu), K e st' = some r → Cfg w0 ok0 w' ok' mu' st' a' → Step w ok mu st.h a w' ok' mu' st'.h a' (writes c) → Q (exOf e) a' w'), c.wp P Q a w := by
  intro c
  induction c with
  | seq x y _ ihy =>
    intro hok R st K r hs hK a w ok mu hc Q hQ
    simp only [fnOK, bodyOK, topOK, Bool.and_eq_true] at hok
    simp only [execTop] at hs
    refine wp_seq (exec_sound hΓ hC hm x hok.1.1 R st _ r hs a w ok mu hc _ fun e st' a' w' ok' mu' hk hc' hst => ?_)
    cases e with
    | normal => exact ihy (by simp only [fnOK, Bool.and_eq_true]; exact ⟨hok.1.2, hok.2⟩) R st' K r hk hK a' w' ok' mu' hc' Q fun e st2 a2 w2 ok2 mu2 hk2 hc2 hst2 => hQ e st2 a2 w2 ok2 mu2 hk2 hc2 (hst.trans hst2)
    | goto l' => simp only at hk; rw [hK] at hk; cases hk
    | exit j => exact hQ (.exit j) st' a' w' ok' mu' hk hc' (hst.sub fun t ht => List.mem_append_left _ ht)
    | ret => exact hQ .ret st' a' w' ok' mu' hk hc' (hst.sub fun t ht => List.mem_append_left _ ht)
  | scope b _ =>
    intro hok R st K r hs hK a w ok mu hc Q hQ
    simp only [fnOK, Bool.and_eq_true] at hok
    obtain ⟨hok, htop⟩ := hok
    simp only [execTop] at hs
    split at hs
    · rename_i hg
      simp only [topOK, hg, if_true] at htop
      split at htop
      · rename_i l hl
        obtain ⟨rest, hf, hch⟩ := chainChk_find b htop
        exact wp_scope_goto hf rounds (chain_sound hΓ hC hm b hok hch R st K r hs hK a w ok mu hc hQ)
      · cases htop
    · exact exec_sound hΓ hC hm _ hok R st K r hs a w ok mu hc Q hQ
  | _ =>
    intro hok R st K r hs hK a w ok mu hc Q hQ
    simp only [fnOK, Bool.and_eq_true] at hok
    exact exec_sound hΓ hC hm _ hok.1 R st K r hs a w ok mu hc Q hQ
end
end Go.AM

/- The abstract machine's code against the model's, third part: a function. -/
set_option linter.unusedVariables false
set_option linter.unusedSimpArgs false
namespace Go.AM
open Go.RowKit

section
variable {P : Program} {Γ : FuncId → Option FSig} {C : IV → List Nat → List (List IV) → Option (List IV)} {A : Ann} {ops : Array Oper} {R : Type}
/-! ### What comes out comes from what comes behind -/
theorem execOps_some {k : St → Option R} {r : R} : ∀ (l : List Oper) (st : St), execOps P Γ C ops l st k = some r → ∃ st', k st' = some r
  | [], st, h => ⟨st, h⟩
  | o :: l, st, h => by
    simp only [execOps] at h
    obtain ⟨b, _, hc⟩ := execOp1_spec h
    rcases hc with ⟨_, p, h', _, h2⟩ | ⟨_, h2⟩
    · exact execOps_some l _ h2
    · exact execOps_some l _ h2
theorem execF_some {ok : Oper → List PV → Bool} {k : St → Option R} {r : R} : ∀ (l : List Oper) (st : St), execF P Γ C ok ops l st k = some r → ∃ st', k st' = some r
  | [], st, h => ⟨st, h⟩
  | o :: l, st, h => by
    simp only [execF] at h
    split at h
    · obtain ⟨b, _, hc⟩ := execOp1_spec h
      rcases hc with ⟨_, p, h', _, h2⟩ | ⟨_, h2⟩
      · exact execF_some l _ h2
      · exact execF_some l _ h2
    · cases h
theorem execRg_some {ord : Option (List Nat × List Nat × List Nat)} {k : St → Option R} {r : R} {st : St} (h : execRg P Γ C ord ops st k = some r) : ∃ st', k st' = some r := by
  unfold execRg at h
  split at h
  · exact execOps_some _ _ h
  · obtain ⟨st', h2⟩ := execF_some _ _ h
    obtain ⟨st2, h3⟩ := execF_some _ _ h2
    obtain ⟨st3, h4⟩ := execF_some _ _ h3
    exact ⟨_, h4⟩
theorem exec_some : ∀ (c : Code) (R : Type) (st : St) (K : Ex → St → Option R) (r : R), exec P Γ C A c R st K = some r → ∃ e st', K e st' = some r := by
  intro c
  induction c with
  | skip => intro R st K r h; exact ⟨_, _, h⟩
  | label l => intro R st K r h; exact ⟨_, _, h⟩
  | ret => intro R st K r h; exact ⟨_, _, h⟩
  | exit id => intro R st K r h; exact ⟨_, _, h⟩
  | goto l => intro R st K r h; exact ⟨_, _, h⟩
  | seq x y ihx ihy =>
    intro R st K r h
    simp only [exec] at h
    obtain ⟨e, st', h2⟩ := ihx R st _ r h
    cases e with
    | normal => exact ihy R st' K r h2
    | exit id => exact ⟨_, _, h2⟩
    | ret => exact ⟨_, _, h2⟩
    | goto l => exact ⟨_, _, h2⟩
  | block id x ih =>
    intro R st K r h
    simp only [exec] at h
    obtain ⟨e, st', h2⟩ := ih R st _ r h
    cases e with
    | normal => exact ⟨_, _, h2⟩
    | exit j => simp only at h2; split at h2 <;> exact ⟨_, _, h2⟩
    | ret => exact ⟨_, _, h2⟩
    | goto l => exact ⟨_, _, h2⟩
  | scope x ih =>
    intro R st K r h
    simp only [exec] at h
    obtain ⟨e, st', h2⟩ := ih R st _ r h
    cases e with
    | goto l => cases h2
    | _ => exact ⟨_, _, h2⟩
  | cond x y z ihy ihz =>
    intro R st K r h
    simp only [exec] at h
    split at h
    · rcases icond_some h with ⟨_, h1⟩ | ⟨_, h1⟩
      · exact ihy R st K r h1
      · exact ihz R st K r h1
    · cases h
  | region id ops draw =>
    intro R st K r h
    simp only [exec] at h
    split at h
    · obtain ⟨st', h2⟩ := execRg_some h; exact ⟨_, _, h2⟩
    · obtain ⟨lv, _, h2⟩ := Option.bind_eq_some_iff.1 h; exact ⟨_, _, h2⟩
  | loop x ih =>
    intro R st K r h
    simp only [exec] at h
    split at h
    · split at h
      · cases h
      · obtain ⟨p, _, h2⟩ := Option.bind_eq_some_iff.1 h
        unfold sel at h2
        rw [List.getD_eq_getElem?_getD, List.getElem?_map] at h2
        cases h3 : (exits x)[p.1]? with
        | none => rw [h3] at h2; cases h2
        | some e => rw [h3] at h2; exact ⟨_, _, h2⟩
    · cases h
  | _ => intro R st K r h; simp [exec] at h
theorem sel_some {α R : Type} {l : List α} {g : α → Option R} {k : Nat} {r : R} (h : sel k (l.map g) = some r) : ∃ e, g e = some r := by
  unfold sel at h
  rw [List.getD_eq_getElem?_getD, List.getElem?_map] at h
  cases h3 : l[k]? with
  | none => rw [h3] at h; cases h
  | some e => rw [h3] at h; exact ⟨_, h⟩
theorem execChain_some : ∀ (c : Code) (R : Type) (st : St) (K : Ex → St → Option R) (r : R), execChain P Γ C A c R st K = some r → ∃ e st', K e st' = some r := by
  intro c
  induction c with
  | seq x y _ ihy =>
    intro R st K r h
    by_cases hx : ∃ l', x = .label l'
    · obtain ⟨l', rfl⟩ := hx
      simp only [execChain] at h
      split at h
      · unfold execGo at h
        simp only at h
        split at h
        · split at h
          · cases h
          · obtain ⟨p, _, h2⟩ := Option.bind_eq_some_iff.1 h
            obtain ⟨e, h3⟩ := sel_some h2
            exact ⟨_, _, h3⟩
        · cases h
      · exact exec_some _ _ _ _ _ h
    · have h' : exec P Γ C A x R st (fun e st' => match e with | .normal => execChain P Γ C A y R st' K | e => K e st') = some r := by
        cases x <;> first | exact absurd ⟨_, rfl⟩ hx | exact h
      obtain ⟨e, st', h2⟩ := exec_some _ _ _ _ _ h'
      cases e with
      | normal => exact ihy R st' K r h2
      | _ => exact ⟨_, _, h2⟩
  | _ => intro R st K r h; exact exec_some _ _ _ _ _ h
theorem execTop_some : ∀ (c : Code) (R : Type) (st : St) (K : Ex → St → Option R) (r : R), execTop P Γ C A c R st K = some r → ∃ e st', K e st' = some r := by
  intro c
  induction c with
  | seq x y _ ihy =>
    intro R st K r h
    simp only [execTop] at h
    obtain ⟨e, st', h2⟩ := exec_some _ _ _ _ _ h
    cases e with
    | normal => exact ihy R st' K r h2
    | _ => exact ⟨_, _, h2⟩
  | scope b _ =>
    intro R st K r h
    simp only [execTop] at h
    split at h
    · exact execChain_some _ _ _ _ _ h
    · exact exec_some _ _ _ _ _ h
  | _ => intro R st K r h; exact exec_some _ _ _ _ _ h
theorem run_scalar {f : Func} {as : List (List IV)} {r : List IV} (hA : A.scalar = true) (h : run P Γ C A f as = some r) : ∀ x ∈ r, x.scalar = true := by
  unfold run at h
  split at h
  · obtain ⟨e, st', h2⟩ := execTop_some _ _ _ _ _ h
    have key : ∀ q, fin A q = some r → ∀ x ∈ r, x.scalar = true := by
      intro q hq
      unfold fin at hq
      split at hq
      · rw [if_pos hA] at hq
        unfold scal at hq
        split at hq
        · rename_i hall; cases hq; exact fun x hx => List.all_eq_true.1 hall x hx
        · cases hq
      · cases hq
    cases e with
    | normal => exact key _ h2
    | exit j => cases h2
    | goto l => cases h2
    | ret => exact key _ h2
  · cases h
end

section
variable {P : Program} {Γ : FuncId → Option FSig} {C : IV → List Nat → List (List IV) → Option (List IV)} {A : Ann} {w0 : World} {ok0 : O0} {w : World} {ok : Nat → Prop} {mu : Mu} {st : St} {a : Act}

/-! ### What is handed in -/
theorem initOne_rel {t : TypeId} {cs : List IV} {p : PV} {v : Value} (h : initOne P t cs = some p) (r : ArgRel w ok cs v) : RP w ok (fun _ => none) p v := by
  unfold initOne at h
  split at h
  · split at h
    · rename_i hc
      cases h
      rcases r with ⟨x, e, _⟩ | ⟨h1, vs, rfl, h2, h3⟩
      · rw [e] at hc; simp at hc; omega
      · refine .agg _ _ (by simp [h2]) fun i q u h4 h5 => ?_
        rw [List.getElem?_map] at h4
        cases hi : cs[i]? with
        | none => rw [hi] at h4; cases h4
        | some x => rw [hi] at h4; cases h4; exact .imm (h3 i x u hi h5)
    · cases h
  · split at h
    · cases h
      rcases r with ⟨x, e, hr⟩ | ⟨h1, _⟩
      · cases e; exact .imm hr
      · simp at h1
    · cases h
theorem initArgs_rel : ∀ (ts : List TypeId) (n : Nat) (as : List (List IV)) (ps : List PV) (args : List Value), initArgs P ts n as = some ps → as.length = args.length → (∀ (i : Nat) (c : List IV) (v : Value), as[i]? = some c → args[i]? = some v → ArgRel w ok c v) →
    ps.length = args.length ∧ ∀ (i : Nat) (p : PV) (v : Value), ps[i]? = some p → args[i]? = some v → RP w ok (fun _ => none) p v
  | [], 0, [], ps, args, h, hl, _ => by
    simp only [initArgs, Option.some.injEq] at h
    subst h
    exact ⟨by simpa using hl, fun i p v h1 _ => by simp at h1⟩
  | [], 0, _ :: _, ps, args, h, _, _ => by simp [initArgs] at h
  | [], n + 1, [], ps, args, h, _, _ => by simp [initArgs] at h
  | [], n + 1, [] :: l, ps, args, h, _, _ => by simp [initArgs] at h
  | [], n + 1, (_ :: _ :: _) :: l, ps, args, h, _, _ => by simp [initArgs] at h
  | [], n + 1, [x] :: l, ps, args, h, hl, hr => by
    simp only [initArgs, Option.map_eq_some_iff] at h
    obtain ⟨qs, h1, rfl⟩ := h
    cases args with
    | nil => simp at hl
    | cons v args =>
      obtain ⟨h2, h3⟩ := initArgs_rel [] n l qs args h1 (by simpa using hl) fun i c v hc hv => hr (i + 1) c v (by simpa using hc) (by simpa using hv)
      refine ⟨by simp [h2], fun i p u h4 h5 => ?_⟩
      cases i with
      | zero =>
        simp at h4 h5; subst h4; subst h5
        rcases hr 0 [x] v rfl rfl with ⟨y, e, hx⟩ | ⟨h6, _⟩
        · cases e; exact .imm hx
        · simp at h6
      | succ i => exact h3 i p u (by simpa using h4) (by simpa using h5)
  | t :: ts, n, [], ps, args, h, _, _ => by simp [initArgs] at h
  | t :: ts, n, cs :: l, ps, args, h, hl, hr => by
    simp only [initArgs] at h
    obtain ⟨p, h0, h⟩ := Option.bind_eq_some_iff.1 h
    obtain ⟨qs, h1, rfl⟩ := Option.map_eq_some_iff.1 h
    cases args with
    | nil => simp at hl
    | cons v args =>
      obtain ⟨h2, h3⟩ := initArgs_rel ts n l qs args h1 (by simpa using hl) fun i c v hc hv => hr (i + 1) c v (by simpa using hc) (by simpa using hv)
      refine ⟨by simp [h2], fun i q u h4 h5 => ?_⟩
      cases i with
      | zero => simp at h4 h5; subst h4; subst h5; exact initOne_rel h0 (hr 0 cs v rfl rfl)
      | succ i => exact h3 i q u (by simpa using h4) (by simpa using h5)

/-! ### What is handed back -/
/-- What results hang on. -/
def okEnd (w0 : World) (ok0 : O0) (w : World) : Nat → Prop := fun b => ok0.ok b ∨ (Own0 w0 ok0 b ∧ b < w.heap.size)
theorem okNew_of (i : Inv w0 ok0 w ok mu st.h) (l : List Nat) : ∀ b, okR ok mu l b → okEnd w0 ok0 w b := fun b hb => by
  rcases hb with hb | ⟨q, _, pl, base, h1, h2⟩
  · rcases i.okb b hb with h1 | h1
    · exact .inl h1
    · exact .inr ⟨h1, i.okw b hb⟩
  · obtain ⟨h3, h4, _⟩ := i.own q pl b base h1 h2
    exact .inr ⟨h3, h4⟩
theorem okEnd_new {w0 w : World} {OK : Nat → Prop} : ∀ b, okEnd w0 ⟨OK, fun _ => False⟩ w b → okNew w0 OK w b := fun b hb => by
  rcases hb with h | ⟨h | h, h2⟩
  · exact .inl h
  · exact .inr ⟨h, h2⟩
  · exact h.elim
theorem ResOne.more {w : World} {ok ok' : Nat → Prop} (hm : ∀ b, ok b → ok' b) {n : Nat} {r : List IV} {i : Nat} {v : Value} (h : ResOne w ok n r i v) : ResOne w ok' n r i v := by
  rcases h with ⟨h1, h2⟩ | ⟨h1, vs, h2, h3, h4⟩
  · exact .inl ⟨h1, h2.more hm⟩
  · exact .inr ⟨h1, vs, h2, h3, fun j u hu => (h4 j u hu).more hm⟩
theorem ResAll.more {w : World} {ok ok' : Nat → Prop} (hm : ∀ b, ok b → ok' b) {r : List IV} : ∀ {ns : List Nat} {i : Nat} {vs : List Value}, ResAll w ok r ns i vs → ResAll w ok' r ns i vs
  | [], _, [], _ => trivial
  | _ :: _, _, _ :: _, h => ⟨h.1.more hm, ResAll.more hm h.2⟩
  | [], _, _ :: _, h => h.elim
  | _ :: _, _, [], h => h.elim
theorem ResRel.more {w : World} {ok ok' : Nat → Prop} (hm : ∀ b, ok b → ok' b) {ns : List Nat} {r : List IV} {v : Value} (h : ResRel w ok ns r v) : ResRel w ok' ns r v := by
  match ns, h with
  | [n], h => exact ResOne.more hm h
  | [], h => exact h.imp fun vs h => ⟨h.1, h.2.more hm⟩
  | n :: m :: ns, h => exact h.imp fun vs h => ⟨h.1, h.2.more hm⟩
theorem resOne1_rel (c : Cfg w0 ok0 w ok mu st a) {n : Nat} {p : PV} {v : Value} (r : RP w ok mu p v) {cs : List IV} (h : resOne1 n p st.h = some cs) : cs.length = n ∧ ∀ (l : List IV) (i : Nat), (∀ j, j < n → nth l (i + j) = nth cs j) → ResOne w (okEnd w0 ok0 w) n l i v := by
  unfold resOne1 at h
  split at h
  · rename_i hok
    obtain ⟨as, h1, h2⟩ := Option.bind_eq_some_iff.1 h
    split at h2
    · rename_i hn
      cases h2
      refine ⟨hn, fun l i hl => ?_⟩
      have hrel := (cellsIV_rel c.inv.q r hok h1).more (okNew_of c.inv _)
      rcases hrel with ⟨x, e, hx⟩ | ⟨h3, vs, e, h4, h5⟩
      · subst e
        have hn1 : n = 1 := by rw [← hn]; rfl
        refine .inl ⟨hn1, ?_⟩
        have := hl 0 (by omega)
        rw [Nat.add_zero] at this
        rw [this]; exact hx
      · refine .inr ⟨by omega, vs, e, by omega, fun j u hu => ?_⟩
        have hj : j < n := by have := (Array.getElem?_eq_some_iff.1 hu).1; omega
        rw [hl j hj]
        refine h5 j (nth cs j) u ?_ hu
        exact nth_get (by omega)
    · cases h2
  · cases h
theorem nth_append_left {x y : List IV} {j : Nat} (h : j < x.length) : nth (x ++ y) j = nth x j := by
  unfold nth; rw [List.getD_eq_getElem?_getD, List.getElem?_append_left h, List.getD_eq_getElem?_getD]
theorem nth_append_right {x y : List IV} {j : Nat} : nth (x ++ y) (x.length + j) = nth y j := by
  unfold nth; rw [List.getD_eq_getElem?_getD, List.getElem?_append_right (by omega), List.getD_eq_getElem?_getD]; congr 2; omega
theorem loadBox_run (c : Cfg w0 ok0 w ok mu st a) {x : Nat} {t : TypeId} {p : PV} (h : loadBox P t (st.fr.getD x .undef) st.h = some p) : ∃ v, (do loadVar t (← asAddr (a.tmps.getD x undef)) : Sem Value).run P w = .ok v w ∧ RP w ok mu p v := by
  have r : RP w ok mu (st.fr.getD x .undef) (a.tmps.getD x undef) := c.fr.ev (.tmp x)
  generalize a.tmps.getD x undef = v0 at r
  unfold loadBox at h
  split at h
  · rename_i q j hx
    rw [hx] at r
    split at h
    · rename_i md cs hg
      cases r with
      | ptr _ _ pl b base hm hl =>
        have hob := c.inv.ob q pl hm
        rw [hg] at hob
        obtain ⟨b', base', cc, T, hl', hw, hs, hr⟩ := hob
        rw [hl] at hl'; cases hl'
        have has : (asAddr (.pointer (some ⟨b, base + j, none⟩))).run P w = .ok ⟨b, base + j, none⟩ w := rfl
        split at h
        · rename_i hag
          split at h
          · rename_i hj
            cases h
            have hvs : ((cc.toList.drop (base + j)).take (P.cellsOf t)).length = P.cellsOf t := by simp; omega
            refine ⟨.agg ((cc.toList.drop (base + j)).take (P.cellsOf t)).toArray, ?_, ?_⟩
            · rw [Sem.run_bind, has]
              simp only [Result.andThen_ok]
              refine run_loadVar_agg hag hvs fun i v hi => ?_
              have hlt : i < P.cellsOf t := by have := (List.getElem?_eq_some_iff.1 hi).1; rwa [hvs] at this
              rw [List.getElem?_take_of_lt hlt, List.getElem?_drop] at hi
              rw [cell_at hw]
              simpa using hi
            · refine .agg _ _ (by simp; omega) fun i p v h1 h2 => ?_
              have hlt : i < P.cellsOf t := by
                have := (List.getElem?_eq_some_iff.1 h1).1; simp at this; omega
              rw [List.getElem?_take_of_lt hlt, List.getElem?_drop] at h1
              rw [List.getElem?_toArray, List.getElem?_take_of_lt hlt, List.getElem?_drop] at h2
              obtain ⟨u, h3, h4⟩ := hr (j + i) p h1
              have : cc[base + (j + i)]? = some v := by rw [← Nat.add_assoc]; simpa using h2
              rw [h3] at this; cases this
              exact h4
          · cases h
        · split at h
          · rename_i hsc
            obtain ⟨u, h3, h4⟩ := hr j p h
            refine ⟨u, ?_, h4⟩
            rw [Sem.run_bind, has]
            simp only [Result.andThen_ok]
            exact run_loadVar_one hsc (by rw [cell_at hw]; exact h3)
          · cases h
    · cases h
  · cases h
def resSem (tmps : Array Value) : ResultVar → Sem Value
  | .tmp t => pure (tmps.getD t undef)
  | .cell a t => do loadVar t (← asAddr (tmps.getD a undef))
theorem res_all (c : Cfg w0 ok0 w ok mu st a) : ∀ (rs : List ResultVar) (ns : List Nat) (cs : List IV), resIV P st rs ns = some cs → ∃ vs, (rs.mapM (resSem a.tmps)).run P w = .ok vs w ∧ vs.length = rs.length ∧ rs.length = ns.length ∧
    ∀ (l : List IV) (i : Nat), (∀ j, j < cs.length → nth l (i + j) = nth cs j) → ResAll w (okEnd w0 ok0 w) l ns i vs
  | [], [], cs, h => by
    simp only [resIV, Option.some.injEq] at h
    subst h
    exact ⟨[], by simp, rfl, rfl, fun l i _ => trivial⟩
  | [], _ :: _, cs, h => by simp [resIV] at h
  | .tmp _ :: _, [], cs, h => by simp [resIV] at h
  | .cell _ _ :: _, [], cs, h => by simp [resIV] at h
  | .tmp t :: rs, n :: ns, cs, h => by
    simp only [resIV] at h
    split at h
    · rename_i x xs hx hxs
      cases h
      have r : RP w ok mu (st.fr.getD t .undef) (a.tmps.getD t undef) := c.fr.ev (.tmp t)
      obtain ⟨hn, h1⟩ := resOne1_rel c r hx
      obtain ⟨vs, h2, h3, h4, h5⟩ := res_all c rs ns xs hxs
      refine ⟨a.tmps.getD t undef :: vs, ?_, by simp [h3], by simp [h4], fun l i hl => ⟨h1 l i fun j hj => ?_, h5 l (i + n) fun j hj => ?_⟩⟩
      · simp only [List.mapM_cons, resSem, Sem.run_bind, h2, Sem.run_pure, Result.andThen_ok]
      · rw [hl j (by simp; omega), nth_append_left (by omega)]
      · have := hl (n + j) (by simp; omega)
        rw [show i + n + j = i + (n + j) by omega, this, ← hn, nth_append_right]
    · cases h
  | .cell x t :: rs, n :: ns, cs, h => by
    simp only [resIV] at h
    split at h
    · rename_i y ys hx hxs
      cases h
      obtain ⟨p, hp, hq⟩ := Option.bind_eq_some_iff.1 hx
      obtain ⟨v, hv, r⟩ := loadBox_run (P := P) c hp
      obtain ⟨hn, h1⟩ := resOne1_rel c r hq
      obtain ⟨vs, h2, h3, h4, h5⟩ := res_all c rs ns ys hxs
      refine ⟨v :: vs, ?_, by simp [h3], by simp [h4], fun l i hl => ⟨h1 l i fun j hj => ?_, h5 l (i + n) fun j hj => ?_⟩⟩
      · have hv' : (resSem a.tmps (.cell x t)).run P w = .ok v w := hv
        simp only [List.mapM_cons, Sem.run_bind, hv', h2, Sem.run_pure, Result.andThen_ok]
      · rw [hl j (by simp; omega), nth_append_left (by omega)]
      · have := hl (n + j) (by simp; omega)
        rw [show i + n + j = i + (n + j) by omega, this, ← hn, nth_append_right]
    · cases h
theorem results_rel (c : Cfg w0 ok0 w ok mu st a) {f : Func} {r : List IV} (h : resIV P st f.results.toList (f.resultTypes.toList.map P.cellsOf) = some r) :
    ∃ v, (results f a.tmps).run P w = .ok v w ∧ ResRel w (okEnd w0 ok0 w) (f.resultTypes.toList.map P.cellsOf) r v := by
  obtain ⟨vs, h1, h2, h3, h4⟩ := res_all c _ _ _ h
  have hr : results f a.tmps = (do let vs ← f.results.mapM (resSem a.tmps); pure (if h : vs.size = 1 then vs[0] else .tuple vs)) := by
    unfold results
    congr 2
  have hm : (f.results.mapM (resSem a.tmps)).run P w = .ok vs.toArray w := by
    rw [Array.mapM_eq_mapM_toList, map_eq_pure_bind]
    simp only [Sem.run_bind, h1, Result.andThen_ok, Sem.run_pure]
  have hall := h4 r 0 fun j _ => by rw [Nat.zero_add]
  refine ⟨if h : vs.toArray.size = 1 then vs.toArray[0] else .tuple vs.toArray, by rw [hr, Sem.run_bind, hm]; rfl, ?_⟩
  generalize f.resultTypes.toList.map P.cellsOf = ns at *
  match ns, vs, h2, h3, hall with
  | [n], [v], _, _, hall => exact hall.1
  | [], [], _, _, _ => exact ⟨_, rfl, trivial⟩
  | n :: m :: ns, v :: u :: vs, _, _, hall =>
    unfold ResRel
    split
    · rename_i heq; cases heq
    · refine ⟨_, by rw [dif_neg (by simp)], by simpa using hall⟩
/-- A function's run. -/
theorem run_sound (hΓ : GOK P Γ) (hC : COK P C) (hm : P.follows .mixedOrders = true) {g : FuncId} {f : Func} (hg : P.funcs[g]? = some f) (hb : (match f.body with | some c => fnOK Γ A c | none => false) = true) {W : World} {OK : Nat → Prop} (hok : ∀ b, OK b → b < W.heap.size)
    {as : List (List IV)} {args : List Value} (hargs : ArgsRel W OK as args) {r : List IV} (hr : run P Γ C A f as = some r) :
    Calls P g args.toArray W fun e w' => ∃ v, e = .returned v ∧ Below W.heap.size W w' ∧ ResRel w' (okNew W OK w') (f.resultTypes.toList.map P.cellsOf) r v := by
  unfold run at hr
  split at hr
  · rename_i c ps hc hps
    rw [hc] at hb
    obtain ⟨hl, hrel⟩ := initArgs_rel _ _ _ _ _ hps hargs.1 hargs.2
    refine calls_of_wp hg hc (top_sound (w0 := W) (ok0 := ⟨OK, fun _ => False⟩) hΓ hC hm c hb _ _ _ r hr (fun _ _ => rfl) _ W OK (fun _ => none) ⟨⟨.refl _ _ _, hok, fun b hb => .inl hb, fun o pl ho => (by cases ho), fun o pl b base ho => (by cases ho), fun o o' pl pl' b base base' ho => (by cases ho)⟩, fun _ _ => rfl, ?_⟩ _ fun e st' a' w' ok' mu' hk hcf hst => ?_)
    · refine ⟨by simp [hl], fun t p v h1 h2 => ?_⟩
      simp only [Array.getElem?_append, List.size_toArray] at h2
      by_cases hlt : t < args.length
      · rw [List.getElem?_append_left (by omega)] at h1
        rw [if_pos hlt] at h2
        exact hrel t p v h1 (by simpa using h2)
      · rw [List.getElem?_append_right (by omega), List.getElem?_replicate] at h1
        rw [if_neg hlt, Array.getElem?_replicate] at h2
        split at h1
        · split at h2
          · cases h1; cases h2; exact .skip
          · cases h2
        · cases h1
    · have hfin : ∀ q, fin A q = some r → q = some r := by
        intro q hq
        unfold fin at hq
        split at hq
        · split at hq
          · unfold scal at hq
            split at hq
            · exact hq
            · cases hq
          · exact hq
        · cases hq
      have done : resIV P st' f.results.toList (f.resultTypes.toList.map P.cellsOf) = some r → a'.defers = [] ∧ ∃ v, (results f a'.tmps).run P w' = .ok v w' ∧ ∃ v_1, Ending.returned v = .returned v_1 ∧ Below W.heap.size W w' ∧ ResRel w' (okNew W OK w') (f.resultTypes.toList.map P.cellsOf) r v_1 := by
        intro h
        obtain ⟨v, h1, h2⟩ := results_rel hcf h
        exact ⟨hst.defers, v, h1, v, rfl, (hcf.inv.below.below fun _ h => h), h2.more okEnd_new⟩
      cases e with
      | normal => exact done (hfin _ hk)
      | exit j => cases hk
      | goto l => cases hk
      | ret => exact done (hfin _ hk)
  · cases hr
end
end Go.AM

/- Contracts by hand: a copy of a slice. -/
set_option linter.unusedVariables false
set_option linter.unusedSimpArgs false
namespace Go.AM
open Go.RowKit

theorem wpList_append_run {P : Program} (w : World) {ops : Array Oper} {rest : List Oper} {o : Oper} {a : Act} {Q : Exit → Act → World → Prop} (hgd : o.guard = none) (d s : Operand) (t t' : TypeId)
    (ho : o.op = .call { callee := .builtin .append, args := #[d, s], argTypes := #[t, t'] }) (v u : Value) (hd : a.eval d = v) (hs : a.eval s = u) {v' : Value} {w' : World}
    (hr : (Builtin.append_ #[t, t'] o.type #[v, u]).run P w = .ok v' w') (h : wpList P ops Q rest (a.put o.dst v') w') : wpList P ops Q (o :: rest) a w :=
  wpList_plain hgd fun K hK => by
    unfold Oper.wp execOp
    simp only [ho, resolve, invoke, builtin, Sem.run_bind, Sem.run_pure, Result.andThen_ok, List.map_toArray, List.map_cons, List.map_nil, hd, hs, hr]
    exact hK _ _ h
theorem rows_of {w : World} {ok : Nat → Prop} (hok : ∀ b, ok b → b < w.heap.size) {es : List (List IV)} {v : Value} (r : RV w ok (.lst es) v) {sz : Nat} (hpos : 0 < sz) (hall : ∀ e ∈ es, e.length = sz) :
    ∃ A cap vs, v = .slice A es.length cap ∧ Rows w ok es sz vs ∧ (0 < es.length → ∃ ad, A = some ad ∧ ∀ q u, vs[q]? = some u → w.cell? (ad.add q) = some u) :=
  src_rows (mu := fun _ => none) (h := []) ⟨hok, fun o pl ho => (by cases ho), fun o pl b base ho => (by cases ho)⟩ (p := .imm (.lst es)) (.imm r) rfl hpos hall
theorem cloneS_some {sz bytes : Nat} {x : IV} {r : List IV} (h : cloneS sz bytes x = some r) : ∃ es, x = .lst es ∧ r = [.lst es] ∧ es.length * (bytes + 1) ≤ 2 ^ 40 ∧ ∀ e ∈ es, e.length = sz := by
  unfold cloneS at h
  split at h
  · rename_i es
    split at h
    · rename_i hc
      cases h
      exact ⟨es, rfl, rfl, hc.1, fun e he => by simpa using List.all_eq_true.1 hc.2 e he⟩
    · cases h
  · cases h
theorem own_of_clone {P : Program} {g : FuncId} {t e : TypeId} {sz bytes : Nat} (h0 : P.underlying t = some (.slice e)) (hel : elemOK P e = true) (hsz : P.cellsOf e = sz) (hby : P.bytesOf e = bytes)
    (hnil : ∀ (w : World) (n c : Nat), Calls P g #[.slice none n c] w fun e w' => e = .returned (.slice none 0 0) ∧ w' = w)
    (hsome : ∀ (w : World) (ad : Addr) (n c : Nat) (v' : Value) (w' : World), (Builtin.append_ #[t, t] t #[.slice (some ⟨w.heap.size, 0, none⟩) 0 0, .slice (some ad) n c]).run P (w.alloc (.cells #[] e)) = .ok v' w' → Calls P g #[.slice (some ad) n c] w fun e w'' => e = .returned v' ∧ w'' = w') :
    SigOK P g ⟨.own, false, [1], sz, fun l => match l with | [[x0]] => cloneS sz bytes x0 | _ => none⟩ := by
  have hpos : 0 < sz := by
    obtain ⟨_, _, _, _, _, h, _⟩ := elemOK_spec hel
    rw [← hsz]; exact h
  unfold SigOK
  simp only
  intro w ok as args r hok hargs hr
  split at hr
  · rename_i x
    obtain ⟨es, rfl, rfl, hb, hall⟩ := cloneS_some hr
    obtain ⟨hl, hrel⟩ := hargs
    match args, hl with
    | [v], _ =>
      have hv : RV w ok (.lst es) v := by
        rcases hrel 0 _ v rfl rfl with ⟨y, e1, h1⟩ | ⟨h1, _⟩
        · cases e1; exact h1
        · simp at h1
      obtain ⟨A, cap, vs, rfl, hrows, hmem⟩ := rows_of hok hv hpos hall
      have empty : es.length = 0 → ∀ (w' : World) (A' : Option Addr), OwnVal w' ok sz (nth [.lst es] 0) (.slice A' 0 0) ⟨none, 0, sz⟩ := fun h w' A' => by
        have : es = [] := List.length_eq_zero_iff.1 h
        subst this
        exact ⟨.inl ⟨by assumption, rfl, [], rfl, rfl, by simp, fun _ => rfl, fun b base hb => by cases hb⟩, ⟨A', 0, rfl, ⟨Nat.le_refl _, .inl ⟨rfl, rfl⟩⟩, fun b base hb => by cases hb⟩⟩
      cases A with
      | none =>
        have h1 : es.length = 0 := by
          rcases Nat.eq_zero_or_pos es.length with h | h
          · exact h
          · obtain ⟨ad, h2, _⟩ := hmem h; cases h2
        refine Calls.mono (hnil w es.length cap) fun e' w' he => ?_
        obtain ⟨rfl, rfl⟩ := he
        exact ⟨_, _, rfl, .refl _ _, empty h1 _ _, fun b base hb => by cases hb⟩
      | some ad =>
        have hnewsz : (w.alloc (.cells #[] e)).heap.size = w.heap.size + 1 := by simp [World.alloc, -World.alloc_eq]
        have hcell : ∀ a : Addr, ok a.block → (w.alloc (.cells #[] e)).cell? a = w.cell? a := fun a ha => by
          refine cell_of_block ?_
          have := hok _ ha
          simp [World.alloc, -World.alloc_eq, Array.getElem?_push]
          intro h; omega
        have hbel : Below w.heap.size w (w.alloc (.cells #[] e)) := (Below.refl _ w).alloc (Nat.le_refl _) _
        rcases Nat.eq_zero_or_pos es.length with h1 | h1
        · have hvs0 : vs = [] := List.length_eq_zero_iff.1 (by rw [hrows.1, h1]; simp)
          have hrun := append_none (P := P) (w := w.alloc (.cells #[] e)) (ats := #[t, t]) (ty := t) rfl h0 h0 (by rw [hsz]; exact hpos) (A := some ⟨w.heap.size, 0, none⟩) (A' := some ad) (n := 0) (cap := 0) (cap' := cap) (Nat.le_refl _)
          refine Calls.mono (hsome w ad es.length cap _ _ (by rw [h1]; exact hrun)) fun e' w' he => ?_
          obtain ⟨rfl, rfl⟩ := he
          exact ⟨_, _, rfl, hbel, empty h1 _ _, fun b base hb => by cases hb⟩
        · obtain ⟨newCap, rest, g1, g2, g3⟩ := append_grows (P := P) (w := w.alloc (.cells #[] e)) (ats := #[t, t]) (ty := t) rfl h0 h0 hel (A := some ⟨w.heap.size, 0, none⟩) (A' := some ad) (n := 0) (cap := 0) (m := es.length) (cap' := cap) (us := []) (vs := vs) (by simp) (fun h => by omega) (by rw [hsz]; exact hrows.1)
            (fun h => by
              obtain ⟨b, hb1, hb2⟩ := hmem h
              cases hb1
              refine ⟨ad, rfl, fun q u hq => ?_⟩
              rw [cell_of_block (w := w)]
              · exact hb2 q u hq
              · have hlt : ad.block < w.heap.size := by
                  have := hb2 q u hq
                  unfold World.cell? at this
                  rw [add_block] at this
                  cases hx : w.heap[ad.block]? with
                  | none => rw [hx] at this; cases this
                  | some _ => exact (Array.getElem?_eq_some_iff.1 hx).1
                rw [add_block]
                exact Below.heap_alloc w _ _ hlt) (by omega) (by rw [hby]; simpa using hb)
          simp only [Nat.zero_add, List.nil_append] at g1 g2 g3
          refine Calls.mono (hsome w ad es.length cap _ _ g3) fun e' w' he => ?_
          obtain ⟨rfl, rfl⟩ := he
          have hheap : ((w.alloc (.cells #[] e)).drew.alloc (.cells (vs ++ rest).toArray e)).heap[(w.alloc (.cells #[] e)).heap.size]? = some (.cells (vs ++ rest).toArray e (0, 0)) := heap_new (w.alloc (.cells #[] e)).drew _
          have hbel2 : Below w.heap.size w ((w.alloc (.cells #[] e)).drew.alloc (.cells (vs ++ rest).toArray e)) := (hbel.drew).alloc (Nat.le_trans hbel.size (Nat.le_refl _)) _
          have hk : Keeps w ok ((w.alloc (.cells #[] e)).drew.alloc (.cells (vs ++ rest).toArray e)) ok := ⟨fun b hb => hbel2.block b (hok b hb), fun _ h => h⟩
          refine ⟨_, ⟨some ((w.alloc (.cells #[] e)).heap.size, 0), es.length, sz⟩, rfl, hbel2, ⟨?_, ⟨_, newCap, rfl, ⟨g1, .inr ⟨_, 0, rfl, by simp⟩⟩, fun b base hb => ?_⟩⟩, fun b base hb => ?_⟩
          · refine obOk_arr (vs := vs) hheap hall (hrows.later hk) (fun q hq => ?_) ?_
            · simp only [Nat.zero_add, List.getElem?_toArray]
              rw [List.getElem?_append_left hq]
            · simp [hrows.1]
          · cases hb
            refine ⟨_, _, hheap, ?_⟩
            rw [hsz] at g2
            simp only [List.size_toArray, List.length_append, hrows.1, g2, Nat.zero_add]
            rw [← Nat.add_mul]
            exact Nat.mul_le_mul_right _ (by omega)
          · cases hb
            refine ⟨by rw [hnewsz]; omega, ?_⟩
            exact (Array.getElem?_eq_some_iff.1 hheap).1
  · cases hr
end Go.AM

/- Contracts by hand: slices that don't overlap. -/
set_option linter.unusedVariables false
set_option linter.unusedSimpArgs false
namespace Go.AM
open Go.RowKit
theorem overlaps_run {P : Program} (w : World) (tS tR e : TypeId) (ht : P.underlying tS = some (.slice e)) (size : Nat) (hz : ∀ w, (Go.sizeOf e).run P w = .ok size w) (a : Addr) (b off la ca lb cb : Nat) (hne : a.block ≠ b) {c' : Array Value} {T' : TypeId} {fa : Nat × Nat} (ha : w.heap[a.block]? = some (.cells c' T' fa))
    {c : Array Value} {T : TypeId} (hb : w.heap[b]? = some (.cells c T (0, 0))) (hc : c.size ≠ 0) (hc' : c'.size ≠ 0) :
    (Extern.SlicesOverlaps.overlaps #[tS, tS] #[tR] #[.slice (some a) la ca, .slice (some ⟨b, off, none⟩) lb cb]).run P w = .ok (.bool false) w := by
  have hnb : (a.block != b) = true := by simpa using hne
  have hnb' : (a.block == b) = false := by simpa using hne
  have s1 : w.shape? a.block = some (T', c'.size) := by unfold World.shape?; rw [ha]
  have s2 : w.shape? b = some (T, c.size) := by unfold World.shape?; rw [hb]
  have f2 : ∀ x, w.frozen? ⟨b, x, none⟩ = false := fun x => by unfold World.frozen?; simp [hb]
  have hpb : ∀ {α β : Type} (x : α) (f : α → Sem β), (pure x : Sem α).bind f = f x := fun _ _ => rfl
  by_cases h0 : la = 0 ∨ lb = 0 ∨ size = 0
  · conv => lhs; arg 2; whnf
    simp [Sem.run, Sem.bind, ht, hpb]
    simp [hz, h0, Result.andThen]
  · conv => lhs; arg 2; whnf
    cases hk : c.size with
    | zero => exact absurd hk hc
    | succ k =>
     cases hk' : c'.size with
     | zero => exact absurd hk' hc'
     | succ k' =>
      rw [hk] at s2
      rw [hk'] at s1
      simp [Sem.run, Sem.bind, ht, hpb]
      simp [Sem.run, hz, h0, hne, hnb, hnb', frozen, noView, viewAt, mayBeOne, stringish, shape, s1, s2, f2, Result.andThen]
      cases w.frozen? a <;> cases w.frozen? { block := a.block, off := k' + 1 } <;> simp [s1, s2, f2, Sem.run]
end Go.AM

/- Contracts by hand: copies of elements of several cells. -/
set_option linter.unusedVariables false
set_option linter.unusedSimpArgs false
namespace Go.AM
open Go.RowKit
/-- All is read before anything is written: 'us' is what the source held, so many elements' cells. -/
theorem copy_run {P : Program} {w : World} {t t' ty e : TypeId} (hu : P.underlying t = some (.slice e)) (hpos : 0 < P.cellsOf e) {b o dLen dCap sLen sCap : Nat} {A : Option Addr} {us : List Value} {n : Nat} (hn : n = Nat.min sLen dLen) (hul : us.length = n * P.cellsOf e)
    (huc : 0 < n → ∃ ad, A = some ad ∧ ∀ q u, us[q]? = some u → w.cell? (ad.add q) = some u) (h1 : ∀ v ∈ us, v.oneCell' = true) {c : Array Value} {T : TypeId} (hw : w.heap[b]? = some (.cells c T (0, 0))) (hroom : o + us.length ≤ c.size) :
    (Builtin.copy_ #[t, t'] ty #[.slice (some ⟨b, o, none⟩) dLen dCap, .slice A sLen sCap]).run P w = .ok (goInt n) (w.setRow b (c.toList.take o ++ us ++ c.toList.drop (o + us.length)).toArray) := by
  obtain ⟨i, hi⟩ := Option.isSome_iff_exists.1 (info_pos hpos)
  have hF : (Builtin.firstCells (P.cellsOf e) n (.slice A sLen sCap)).run P w = .ok us.toArray w := by
    have h := firstCells_run (P := P) (w := w) (cap := sCap) hul huc
    cases A <;> exact h
  have hst := run_storeCells_at (P := P) b o T us 0 c w hw (by omega) h1
  simp only [Builtin.copy_, run_underlying hu, Builtin.lenOf, run_sizeOf w hi, Sem.run_bind, Result.andThen_ok, Sem.run_pure, ← hn, hF, List.getElem?_toArray, List.getElem?_cons_zero, List.getElem?_cons_succ]
  have hst' : (storeCells ⟨b, o, none⟩ us).run P w = .ok () (w.setRow b (c.toList.take o ++ us ++ c.toList.drop (o + us.length)).toArray) := by simpa using hst
  rw [hst']
  rfl
end Go.AM

/- Contracts by hand: an insertion into a slice, off walks of its four roads. -/
set_option linter.unusedVariables false
set_option linter.unusedSimpArgs false
namespace Go.AM
open Go.RowKit

/-- Cells with others laid over them. -/
def splice (l : List Value) (o : Nat) (us : List Value) : List Value := l.take o ++ us ++ l.drop (o + us.length)
theorem splice_length {l : List Value} {o : Nat} {us : List Value} (h : o + us.length ≤ l.length) : (splice l o us).length = l.length := by
  simp [splice]; omega
theorem splice_in {l : List Value} {o : Nat} {us : List Value} (h : o + us.length ≤ l.length) {q : Nat} (hq : q < us.length) : (splice l o us)[o + q]? = us[q]? := by
  unfold splice
  have : (l.take o).length = o := by simp; omega
  rw [List.append_assoc, List.getElem?_append_right (by omega), this, List.getElem?_append_left (by omega)]
  congr 1; omega
theorem splice_out {l : List Value} {o : Nat} {us : List Value} (h : o + us.length ≤ l.length) {q : Nat} (hq : q < o ∨ o + us.length ≤ q) : (splice l o us)[q]? = l[q]? := by
  unfold splice
  have ht : (l.take o).length = o := by simp; omega
  rcases hq with hq | hq
  · rw [List.append_assoc, List.getElem?_append_left (by omega), List.getElem?_take_of_lt hq]
  · rw [List.append_assoc, List.getElem?_append_right (by omega), ht, List.getElem?_append_right (by omega), List.getElem?_drop]
    congr 1; omega

theorem insertS_some {sz bytes : Nat} {x i y : IV} {r : List IV} (h : insertS sz bytes x i y = some r) : ∃ es k ys, x = .lst es ∧ i = .int .i64 ((k : Nat) : Int) ∧ k ≤ es.length ∧ y = .lst ys ∧ r = [.lst (es.take k ++ ys ++ es.drop k)] ∧ (es.length + ys.length) * (bytes + 1) ≤ 2 ^ 32 ∧ ∀ e ∈ ys, e.length = sz := by
  unfold insertS at h
  split at h
  · rename_i es i ys
    split at h
    · rename_i hc
      cases h
      obtain ⟨h0, h1, h2, h3⟩ := hc
      refine ⟨es, i.toNat, ys, rfl, by rw [Int.toNat_of_nonneg h0], by omega, rfl, rfl, h2, fun e he => by simpa using List.all_eq_true.1 h3 e he⟩
    · cases h
  · cases h

/-- What is told of the walks at one element type. -/
structure InsertWalks (P : Program) (g : FuncId) (t ti tr : TypeId) (sz : Nat) : Prop where
  empty : ∀ (w : World) (A A' : Option Addr) (n c i c' : Nat), i ≤ n → n ≤ c → Calls P g #[.slice A n c, .int .i64 i, .slice A' 0 c'] w fun e w' => e = .returned (.slice A n c) ∧ w' = w
  last : ∀ (w : World) (A A' : Option Addr) (n c m c' : Nat), n ≤ c → 0 < m → ∀ (v' : Value) (w' : World), (Builtin.append_ #[t, t] t #[.slice A n c, .slice A' m c']).run P w = .ok v' w' →
    Calls P g #[.slice A n c, .int .i64 n, .slice A' m c'] w fun e w'' => e = .returned v' ∧ w'' = w'
  grow : ∀ (w : World) (b off n c i m c' : Nat) (A' : Option Addr), i < n → n ≤ c → 0 < m → c < n + m → n + m ≤ 2 ^ 40 → ∀ (w3 : World) (b2 c2 : Nat) (w1 w2 : World),
    (Builtin.append_ #[t, ti] t #[.slice (some ⟨b, off, none⟩) i c, .int .i64 ((n : Int) + m - i)]).run P w = .ok (.slice (some ⟨b2, 0, none⟩) (n + m) c2) w1 →
    n + m ≤ c2 → (Builtin.copy_ #[t, t] ti #[.slice (some ⟨b2, 0 + i * sz, none⟩) (n + m - i) (c2 - i), .slice A' m c']).run P w1 = .ok (goInt m) w2 →
    (Builtin.copy_ #[t, t] ti #[.slice (some ⟨b2, 0 + (i + m) * sz, none⟩) (n + m - (i + m)) (c2 - (i + m)), .slice (some ⟨b, off + i * sz, none⟩) (n - i) (c - i)]).run P w2.drew = .ok (goInt (n - i : Nat)) w3 →
    Calls P g #[.slice (some ⟨b, off, none⟩) n c, .int .i64 i, .slice A' m c'] w fun e w'' => e = .returned (.slice (some ⟨b2, 0, none⟩) (n + m) c2) ∧ w'' = w3
  shift : ∀ (w : World) (b off n c i m c' : Nat) (A' : Option Addr), i < n → n ≤ c → 0 < m → n + m ≤ c → n + m ≤ 2 ^ 40 → ∀ (w2 w3 : World),
    (∀ lb cb, (Extern.SlicesOverlaps.overlaps #[t, t] #[tr] #[.slice A' m c', .slice (some ⟨b, off + (i + m) * sz, none⟩) lb cb]).run P w = .ok (.bool false) w) →
    (Builtin.copy_ #[t, t] ti #[.slice (some ⟨b, off + (i + m) * sz, none⟩) (n + m - (i + m)) (c - (i + m)), .slice (some ⟨b, off + i * sz, none⟩) (n + m - i) (c - i)]).run P w.drew = .ok (goInt (n - i : Nat)) w2 →
    (Builtin.copy_ #[t, t] ti #[.slice (some ⟨b, off + i * sz, none⟩) (n + m - i) (c - i), .slice A' m c']).run P w2 = .ok (goInt m) w3 →
    Calls P g #[.slice (some ⟨b, off, none⟩) n c, .int .i64 i, .slice A' m c'] w fun e w'' => e = .returned (.slice (some ⟨b, off, none⟩) (n + m) c) ∧ w'' = w3

/-- An append of so many zero values that grows. -/
theorem append_zeros {P : Program} {w : World} {t0 t1 e : TypeId} {ty : TypeId} (hu : P.underlying t0 = some (.slice e)) (hu1 : P.underlying t1 = some (.int .i64)) (hok : elemOK P e = true) {A : Option Addr} {n cap m : Nat} {us : List Value}
    (hul : us.length = n * P.cellsOf e) (huc : 0 < n → ∃ ad, A = some ad ∧ ∀ q u, us[q]? = some u → w.cell? (ad.add q) = some u)
    (hneed : cap < n + m) (hbytes : (n + m) * (P.bytesOf e + 1) ≤ 2 ^ 40) :
    ∃ (newCap : Nat) (rest : List Value), n + m ≤ newCap ∧ rest.length = (newCap - n) * P.cellsOf e ∧
      (Builtin.append_ #[t0, t1] ty #[.slice A n cap, .int .i64 (m : Int)]).run P w = .ok (.slice (some ⟨w.heap.size, 0, none⟩) (n + m) newCap) (w.drew.alloc (.cells (us ++ rest).toArray e)) := by
  obtain ⟨i, z, hi, hz, hzs, hpos, hsz, hbt⟩ := elemOK_spec hok
  have hnb : n + m ≤ 2 ^ 40 := Nat.le_trans (Nat.le_mul_of_pos_right _ (by omega)) hbytes
  let newCap := (n + m) + (w.tape w.drawn (.appendCap (n + m) cap e)) % (2 ^ 63 - (n + m))
  have hF1 := fun (w' : World) (hw : w'.heap = w.heap) => firstCells_run (P := P) (w := w') (A := A) (cap := cap) hul (fun h => by
    obtain ⟨ad, hA, hq⟩ := huc h
    exact ⟨ad, hA, fun q u hh => by have := hq q u hh; unfold World.cell? at *; rw [hw]; exact this⟩)
  have hmax : ¬ (((n + m : Nat) : Int) > IntKind.i64.max) := by
    have : IntKind.i64.max = 9223372036854775807 := by rfl
    omega
  have hcap := slicecap_ok hbytes hneed
  have hw : w.drew.heap = w.heap := rfl
  have hchoose : (choose (.appendCap (n + m) cap e)).run P w = .ok newCap w.drew := by
    rfl
  have hpure : ∀ {α : Type} (x : α) (w : World), (pure x : Sem α).run P w = .ok x w := fun _ _ => rfl
  have hzv : ∀ w' : World, (zeroValue e).run P w' = .ok z w' := fun w' => by simp [zeroValue, run_typeInfo w' hi, hz]
  have hwr : IntKind.i64.wrap (m : Int) = (m : Int) := by rw [IntKind.wrap_i64]; omega
  have hasint : ∀ (n : Int) (w : World), (asInt (.int .i64 n)).run P w = .ok n w := fun _ _ => rfl
  have hl1 : ¬ ((m : Int) < 0) := by omega
  have hl2 : ¬ ((m : Int) * (P.bytesOf e : Int) > 2 ^ 48) := by
    have h1 : m * P.bytesOf e ≤ (n + m) * (P.bytesOf e + 1) := Nat.mul_le_mul (by omega) (by omega)
    have h2 : ((m * P.bytesOf e : Nat) : Int) = (m : Int) * (P.bytesOf e : Int) := Int.natCast_mul _ _
    rw [← h2]
    have : (2 : Int) ^ 48 = 281474976710656 := by rfl
    have : (2 : Nat) ^ 40 = 1099511627776 := by rfl
    omega
  by_cases hm0 : m * P.cellsOf e = 0
  · have hm : m = 0 := by
      rcases Nat.mul_eq_zero.1 hm0 with h | h
      · exact h
      · omega
    subst hm
    refine ⟨newCap, (Builtin.zeroCells z.cells (newCap - n)).toList, by omega, by simp [zeroCells_size, hzs], ?_⟩
    simp only [Builtin.append_, Sem.run_bind, run_underlying hu, run_underlying hu1, run_sizeOf w hi, Result.andThen_ok, Builtin.lenOf, List.getElem?_toArray, List.getElem?_cons_zero, List.getElem?_cons_succ, Bool.not_true, Bool.not_false, Bool.false_eq_true, if_false, if_true, false_or, true_or, and_true, hpure, hasint, hwr, if_neg hl1, run_typeInfo w hi, hbt, if_neg hl2, Int.toNat_natCast, if_neg (Nat.not_le.2 hneed)]
    simp only [Sem.run_bind, run_typeInfo w hi, Result.andThen_ok, hbt, if_neg hcap, if_neg hmax, hchoose, run_typeInfo w.drew hi, run_askRoom, hF1 w.drew hw, hzv, newRow, hpure, hm0, if_true]
    simp
    congr 2
    apply Array.toList_inj.1
    simp
  · refine ⟨newCap, (Builtin.zeroCells z.cells m).toList ++ (Builtin.zeroCells z.cells (newCap - (n + m))).toList, by omega, by
      simp only [List.length_append, Array.length_toList, zeroCells_size, hzs]
      rw [← Nat.add_mul]
      congr 1
      omega, ?_⟩
    simp only [Builtin.append_, Sem.run_bind, run_underlying hu, run_underlying hu1, run_sizeOf w hi, Result.andThen_ok, Builtin.lenOf, List.getElem?_toArray, List.getElem?_cons_zero, List.getElem?_cons_succ, Bool.not_true, Bool.not_false, Bool.false_eq_true, if_false, if_true, false_or, true_or, and_true, hpure, hasint, hwr, if_neg hl1, run_typeInfo w hi, hbt, if_neg hl2, Int.toNat_natCast, if_neg (Nat.not_le.2 hneed)]
    simp only [Sem.run_bind, run_typeInfo w hi, Result.andThen_ok, hbt, if_neg hcap, if_neg hmax, hchoose, run_typeInfo w.drew hi, run_askRoom, hF1 w.drew hw, hzv, newRow, hpure, if_neg hm0]
    simp
    congr 2
    apply Array.toList_inj.1
    simp

theorem own_done {w' : World} {ok : Nat → Prop} {es : List (List IV)} {sz : Nat} {vs : List Value} {b base cap : Nat} {c : Array Value} {T : TypeId} (hw : w'.heap[b]? = some (.cells c T (0, 0))) (hall : ∀ e ∈ es, e.length = sz) (hr : Rows w' ok es sz vs)
    (hc : ∀ q, q < vs.length → c[base + q]? = vs[q]?) {n : Nat} (hn : es.length = n) (hcap : n ≤ cap) (hroom : base + cap * sz ≤ c.size) (hpos : 0 < sz := by assumption) : OwnVal w' ok sz (.lst es) (.slice (some ⟨b, base, none⟩) n cap) ⟨some (b, base), n, sz⟩ := by
  subst hn
  refine ⟨obOk_arr (mu' := fun _ => none) hw hall hr hc (Nat.le_trans ?_ hroom), some ⟨b, base, none⟩, cap, rfl, ⟨hcap, .inr ⟨b, base, rfl, by simp⟩⟩, fun b' base' h => ?_⟩
  · exact Nat.add_le_add_left (Nat.mul_le_mul_right _ hcap) _
  · cases h; exact ⟨c, T, hw, hroom⟩
theorem Rows.insert {w : World} {ok : Nat → Prop} {es ys : List (List IV)} {sz k : Nat} {us vs : List Value} (h1 : Rows w ok es sz us) (h2 : Rows w ok ys sz vs) (he : ∀ e ∈ es, e.length = sz) (hy : ∀ e ∈ ys, e.length = sz) (hk : k ≤ es.length) :
    Rows w ok (es.take k ++ ys ++ es.drop k) sz (us.take (k * sz) ++ vs ++ us.drop (k * sz)) := by
  have htake : Rows w ok (es.take k) sz (us.take (k * sz)) := by
    refine ⟨?_, fun v hv => h1.2.1 v (List.mem_of_mem_take hv), fun i j e x hi hj => ?_⟩
    · simp only [List.length_take, h1.1, Nat.min_eq_left hk]
      exact Nat.min_eq_left (Nat.mul_le_mul_right _ hk)
    · have hik : i < k := by have := (List.getElem?_eq_some_iff.1 hi).1; simp at this; omega
      rw [List.getElem?_take_of_lt hik] at hi
      have hjl : j < sz := by rw [← he e (List.mem_of_getElem? hi)]; exact (List.getElem?_eq_some_iff.1 hj).1
      obtain ⟨v, hv, hr⟩ := h1.2.2 i j e x hi hj
      exact ⟨v, by rw [List.getElem?_take_of_lt (row_lt hik hjl)]; exact hv, hr⟩
  have hdrop : Rows w ok (es.drop k) sz (us.drop (k * sz)) := by
    refine ⟨?_, fun v hv => h1.2.1 v (List.mem_of_mem_drop hv), fun i j e x hi hj => ?_⟩
    · simp only [List.length_drop, h1.1, Nat.sub_mul]
    · rw [List.getElem?_drop] at hi
      obtain ⟨v, hv, hr⟩ := h1.2.2 (k + i) j e x hi hj
      exact ⟨v, by rw [List.getElem?_drop, ← Nat.add_assoc, ← Nat.add_mul]; exact hv, hr⟩
  exact (htake.append h2 fun e hm => he e (List.mem_of_mem_take hm)).append hdrop fun e hm => by
    rcases List.mem_append.1 hm with h | h
    · exact he e (List.mem_of_mem_take h)
    · exact hy e h
theorem block_of_cell {w : World} {a : Addr} {u : Value} (h : w.cell? a = some u) : ∃ (c : Array Value) (T : TypeId) (fr : Nat × Nat), w.heap[a.block]? = some (.cells c T fr) ∧ c.size ≠ 0 := by
  unfold World.cell? at h
  split at h
  · rename_i c T fr hc
    refine ⟨c, T, fr, hc, fun h0 => ?_⟩
    have : c = #[] := Array.eq_empty_of_size_eq_zero h0
    subst this
    simp at h
  · cases h
theorem cells_insert {c : Array Value} {base sz k n m : Nat} {us vs : List Value} (hul : us.length = n * sz) (hvl : vs.length = m * sz) (hk : k ≤ n) (h1 : ∀ q, q < k * sz → c[base + q]? = us[q]?) (h2 : ∀ q, q < vs.length → c[base + k * sz + q]? = vs[q]?)
    (h3 : ∀ q, q < (n - k) * sz → c[base + (k + m) * sz + q]? = us[k * sz + q]?) : ∀ q, q < (us.take (k * sz) ++ vs ++ us.drop (k * sz)).length → c[base + q]? = (us.take (k * sz) ++ vs ++ us.drop (k * sz))[q]? := by
  intro q hq
  have hks : k * sz ≤ n * sz := Nat.mul_le_mul_right _ hk
  have htl : (us.take (k * sz)).length = k * sz := by simp; omega
  have hsub : (n - k) * sz = n * sz - k * sz := Nat.sub_mul _ _ _
  have hadd : (k + m) * sz = k * sz + m * sz := Nat.add_mul _ _ _
  simp only [List.length_append, List.length_drop, htl] at hq
  by_cases hq1 : q < k * sz
  · rw [List.append_assoc, List.getElem?_append_left (by omega), List.getElem?_take_of_lt hq1]
    exact h1 q hq1
  · by_cases hq2 : q < k * sz + m * sz
    · rw [List.append_assoc, List.getElem?_append_right (by omega), htl, List.getElem?_append_left (by omega), ← h2 (q - k * sz) (by omega)]
      congr 1; omega
    · rw [List.append_assoc, List.getElem?_append_right (by omega), htl, List.getElem?_append_right (by omega), List.getElem?_drop, hvl]
      have := h3 (q - k * sz - m * sz) (by omega)
      rw [← this]
      congr 1; omega

/-- What is to be shown of a call that takes a slice over. -/
def ConsEnd (w : World) (ok : Nat → Prop) (sz : Nat) (loc : Option (Nat × Nat)) (r : List (List IV)) (e : Ending) (w' : World) : Prop :=
  ∃ v npl, e = .returned v ∧ w'.os = w.os ∧ w'.tape = w.tape ∧ w'.output = w.output ∧ w.heap.size ≤ w'.heap.size ∧ Sizes w w' ∧
        (∀ b, b < w.heap.size → (∀ base, loc ≠ some (b, base)) → w'.heap[b]? = w.heap[b]?) ∧ OwnVal w' ok sz (.lst r) v npl ∧
        ∀ b base, npl.loc = some (b, base) → (w.heap.size ≤ b ∧ b < w'.heap.size) ∨ ∃ base', loc = some (b, base')
theorem cons_new {w w' : World} {ok : Nat → Prop} (hok : ∀ b, ok b → b < w.heap.size) {sz : Nat} {loc : Option (Nat × Nat)} {es ys : List (List IV)} {k : Nat} {us vs : List Value} {c2 : Nat} {c : Array Value} {T : TypeId}
    (hos : w'.os = w.os) (htp : w'.tape = w.tape) (hout : w'.output = w.output) (hsize : w'.heap.size = w.heap.size + 1) (hold : ∀ b, b < w.heap.size → w'.heap[b]? = w.heap[b]?) (hw : w'.heap[w.heap.size]? = some (.cells c T (0, 0)))
    (he : ∀ e ∈ es, e.length = sz) (hy : ∀ e ∈ ys, e.length = sz) (hk : k ≤ es.length) (h1 : Rows w ok es sz us) (h2 : Rows w ok ys sz vs)
    (g1 : ∀ q, q < k * sz → c[0 + q]? = us[q]?) (g2 : ∀ q, q < vs.length → c[0 + k * sz + q]? = vs[q]?) (g3 : ∀ q, q < (es.length - k) * sz → c[0 + (k + ys.length) * sz + q]? = us[k * sz + q]?) (hcap : es.length + ys.length ≤ c2) (hroom : c2 * sz ≤ c.size) (hpos : 0 < sz := by assumption) :
    ConsEnd w ok sz loc (es.take k ++ ys ++ es.drop k) (.returned (.slice (some ⟨w.heap.size, 0, none⟩) (es.length + ys.length) c2)) w' := by
  have hkeep : Keeps w ok w' ok := ⟨fun b hb => hold b (hok b hb), fun _ h => h⟩
  refine ⟨_, ⟨some (w.heap.size, 0), es.length + ys.length, sz⟩, rfl, hos, htp, hout, by omega, fun b c T hb => ?_, fun b hb _ => hold b hb, ?_, fun b base hb => ?_⟩
  · exact ⟨c, by rw [hold b (Array.getElem?_eq_some_iff.1 hb).1]; exact hb, rfl⟩
  · refine own_done hw (fun e hm => ?_) ((Rows.insert h1 h2 he hy hk).later hkeep) (cells_insert h1.1 h2.1 hk g1 g2 g3) (by simp; omega) hcap (by omega)
    rcases List.mem_append.1 hm with h | h
    · rcases List.mem_append.1 h with h | h
      · exact he e (List.mem_of_mem_take h)
      · exact hy e h
    · exact he e (List.mem_of_mem_drop h)
  · cases hb
    exact .inl ⟨Nat.le_refl _, by omega⟩
theorem cons_same {w w' : World} {ok : Nat → Prop} {sz : Nat} {b base : Nat} {es ys : List (List IV)} {k : Nat} {us vs : List Value} {c2 : Nat} {c0 c : Array Value} {T : TypeId} (hnok : ¬ ok b)
    (hos : w'.os = w.os) (htp : w'.tape = w.tape) (hout : w'.output = w.output) (hsize : w'.heap.size = w.heap.size) (hold : ∀ b', b' ≠ b → w'.heap[b']? = w.heap[b']?) (hw0 : w.heap[b]? = some (.cells c0 T (0, 0))) (hw : w'.heap[b]? = some (.cells c T (0, 0))) (hcs : c.size = c0.size)
    (he : ∀ e ∈ es, e.length = sz) (hy : ∀ e ∈ ys, e.length = sz) (hk : k ≤ es.length) (h1 : Rows w ok es sz us) (h2 : Rows w ok ys sz vs)
    (g1 : ∀ q, q < k * sz → c[base + q]? = us[q]?) (g2 : ∀ q, q < vs.length → c[base + k * sz + q]? = vs[q]?) (g3 : ∀ q, q < (es.length - k) * sz → c[base + (k + ys.length) * sz + q]? = us[k * sz + q]?) (hcap : es.length + ys.length ≤ c2) (hroom : base + c2 * sz ≤ c0.size) (hpos : 0 < sz := by assumption) :
    ConsEnd w ok sz (some (b, base)) (es.take k ++ ys ++ es.drop k) (.returned (.slice (some ⟨b, base, none⟩) (es.length + ys.length) c2)) w' := by
  have hkeep : Keeps w ok w' ok := ⟨fun b' hb => hold b' fun e => hnok (e ▸ hb), fun _ h => h⟩
  refine ⟨_, ⟨some (b, base), es.length + ys.length, sz⟩, rfl, hos, htp, hout, by omega, fun b' c' T' hb => ?_, fun b' hb hne => hold b' fun e => hne base (by rw [e]), ?_, fun b' base' hb => ?_⟩
  · by_cases e : b' = b
    · subst e
      rw [hw0] at hb; cases hb
      exact ⟨c, hw, hcs⟩
    · exact ⟨c', by rw [hold b' e]; exact hb, rfl⟩
  · refine own_done hw (fun e hm => ?_) ((Rows.insert h1 h2 he hy hk).later hkeep) (cells_insert h1.1 h2.1 hk g1 g2 g3) (by simp; omega) hcap (by omega)
    rcases List.mem_append.1 hm with h | h
    · rcases List.mem_append.1 h with h | h
      · exact he e (List.mem_of_mem_take h)
      · exact hy e h
    · exact he e (List.mem_of_mem_drop h)
  · cases hb
    exact .inr ⟨base, rfl⟩
theorem sp_in {l : List Value} {o : Nat} {us : List Value} (h : o + us.length ≤ l.length) {q : Nat} (hq : o ≤ q ∧ q < o + us.length) : (splice l o us).toArray[q]? = us[q - o]? := by
  rw [List.getElem?_toArray]
  have := splice_in h (q := q - o) (by omega)
  rwa [show o + (q - o) = q by omega] at this
theorem sp_out {l : List Value} {o : Nat} {us : List Value} (h : o + us.length ≤ l.length) {q : Nat} (hq : q < o ∨ o + us.length ≤ q) : (splice l o us).toArray[q]? = l[q]? := by
  rw [List.getElem?_toArray]; exact splice_out h hq

theorem cons_of_insert {P : Program} {g : FuncId} {t ti tr e : TypeId} {sz bytes : Nat} (h0 : P.underlying t = some (.slice e)) (hti : P.underlying ti = some (.int .i64)) (hel : elemOK P e = true) (hsz : P.cellsOf e = sz) (hby : P.bytesOf e = bytes) (W : InsertWalks P g t ti tr sz) :
    SigOK P g ⟨.cons, false, [1], sz, fun l => match l with | [[x0], [x1], [x2]] => insertS sz bytes x0 x1 x2 | _ => none⟩ := by
  obtain ⟨ii, zz, hii, hzz, hzs, hpos, hisz, hbt⟩ := elemOK_spec hel
  rw [hsz] at hpos hzs hisz
  unfold SigOK
  simp only
  intro w ok as x v0 pl args r hok hown hnok hargs hr
  split at hr
  · rename_i x0 x1 x2 heq
    obtain ⟨rfl, rfl⟩ : x = x0 ∧ as = [[x1], [x2]] := by simpa using heq
    obtain ⟨es, k, ys, rfl, rfl, hk, rfl, rfl, hbig, hys⟩ := insertS_some hr
    obtain ⟨hl, hrel⟩ := hargs
    match args, hl with
    | [v1, v2], _ =>
    have hv1 : v1 = .int .i64 ((k : Nat) : Int) := by
      rcases hrel 0 _ v1 rfl rfl with ⟨y, e1, h1⟩ | ⟨h1, _⟩
      · cases e1; cases h1; rfl
      · simp at h1
    subst hv1
    have hv2 : RV w ok (.lst ys) v2 := by
      rcases hrel 1 _ v2 rfl rfl with ⟨y, e1, h1⟩ | ⟨h1, _⟩
      · cases e1; exact h1
      · simp at h1
    obtain ⟨A', c', vs, rfl, hvrows, hvmem⟩ := rows_of hok hv2 hpos hys
    obtain ⟨hob, A, c, rfl, hh, hc⟩ := hown
    have hown : OwnVal w ok sz (.lst es) (.slice A pl.len c) pl := ⟨hob, A, c, rfl, hh, hc⟩
    obtain ⟨loc, n, sz'⟩ := pl
    obtain ⟨hplsz, es0, he0, hlen, hall, hnone, hcell⟩ := hob.arrN (fun _ h => by cases h)
    cases he0
    simp only at hplsz hlen hnone hcell hh hc hnok hown ⊢
    subst hplsz
    subst hlen
    have hnm : es.length + ys.length ≤ 2 ^ 32 := Nat.le_trans (Nat.le_mul_of_pos_right _ (by omega)) hbig
    have hnm40 : es.length + ys.length ≤ 2 ^ 40 := Nat.le_trans hnm (by decide)
    have hbig40 : (es.length + ys.length) * (bytes + 1) ≤ 2 ^ 40 := Nat.le_trans hbig (by decide)
    show Calls P g #[.slice A es.length c, .int .i64 (k : Int), .slice A' ys.length c'] w (ConsEnd w ok sz' loc (es.take k ++ ys ++ es.drop k))
    rcases Nat.eq_zero_or_pos ys.length with hm | hm
    · have : ys = [] := List.length_eq_zero_iff.1 hm
      subst this
      refine Calls.mono (W.empty w A A' es.length c k c' hk hh.1) fun e' w' he => ?_
      obtain ⟨rfl, rfl⟩ := he
      refine ⟨_, ⟨loc, es.length, sz'⟩, rfl, rfl, rfl, rfl, Nat.le_refl _, Sizes.refl _, fun _ _ _ => rfl, ?_, fun b base h => .inr ⟨base, h⟩⟩
      simpa using hown
    obtain ⟨ad, hA', hvc⟩ := hvmem hm
    subst hA'
    have hadok : ok ad.block := by
      cases hv2 with
      | lst _ a cap s vals hcap hsz2 hmem hrel2 =>
        have hs : s = sz' := by rw [← hsz2 _ (List.getElem_mem hm)]; exact hys _ (List.getElem_mem hm)
        obtain ⟨ad', e1, h1, _⟩ := hmem 0 0 hm (by omega)
        cases e1; exact h1
    have hul2 : ∀ {l : List Value} {j : Nat}, l.length = j * sz' → l.length = j * P.cellsOf e := fun h => by rw [hsz]; exact h
    by_cases hc0 : c = 0
    · subst hc0
      have hn0 : es.length = 0 := by have := hh.1; omega
      have hes : es = [] := List.length_eq_zero_iff.1 hn0
      subst hes
      have hk0 : k = 0 := by simpa using hk
      subst hk0
      obtain ⟨newCap, rest, g1, g2, g3⟩ := append_grows (P := P) (w := w) (ats := #[t, t]) (ty := t) rfl h0 h0 hel (A := A) (A' := some ad) (n := 0) (cap := 0) (m := ys.length) (cap' := c') (us := []) (vs := vs) (by simp) (fun h => by omega) (hul2 hvrows.1)
        (fun h => ⟨ad, rfl, hvc⟩) (by omega) (by rw [hby]; simpa using hbig40)
      refine Calls.mono (W.last w A (some ad) 0 0 ys.length c' (Nat.le_refl _) hm _ _ g3) fun e' w' he => ?_
      obtain ⟨rfl, rfl⟩ := he
      simp only [List.nil_append, Nat.zero_add] at g1 g2 ⊢
      have := cons_new (w := w) (w' := w.drew.alloc (.cells (vs ++ rest).toArray e)) hok (loc := loc) (es := []) (ys := ys) (k := 0) (us := []) (vs := vs) (c2 := newCap) rfl rfl rfl (by show (w.heap.push _).size = _; simp) (fun b hb => Below.heap_alloc w.drew _ b hb) (heap_new w.drew _) hall hys (Nat.zero_le _)
        ⟨by simp, fun v hv => by simp at hv, fun i j e x h => by simp at h⟩ hvrows (fun q hq => by omega) (fun q hq => by
          simp only [Nat.zero_mul, Nat.zero_add, List.getElem?_toArray]
          rw [List.getElem?_append_left hq]) (fun q hq => by simp at hq) (by simpa using g1) (by
          simp only [List.size_toArray, List.length_append, hvrows.1, g2, hsz]
          rw [← Nat.add_mul]
          exact Nat.mul_le_mul_right _ (by omega))
      simpa using this
    rcases hh.2 with ⟨_, h1⟩ | ⟨b, base, hloc, hA⟩
    · exact absurd h1 hc0
    simp only at hloc
    subst hloc
    simp only [Nat.zero_mul, Nat.add_zero] at hA
    subst hA
    obtain ⟨c1, T, hw, hroom1, hrelc⟩ := hcell b base rfl
    obtain ⟨c1', T', hw', hroom⟩ := hc b base rfl
    rw [hw] at hw'; cases hw'
    have hbnok := hnok b base rfl
    have hblt : b < w.heap.size := (Array.getElem?_eq_some_iff.1 hw).1
    -- the old cells
    have hold : ∃ us, Rows w ok es sz' us ∧ ∀ q, q < us.length → c1[base + q]? = us[q]? := by
      have iq : InvQ w ok (fun q => if q = 0 then some ⟨some (b, base), es.length, sz'⟩ else none) [.arr .rw sz' (.lst es)] := by
        refine ⟨hok, fun o pl ho => ?_, fun o pl b' base' ho hl => ?_⟩
        · split at ho
          · rename_i e; subst e; cases ho
            exact .inl ⟨by assumption, rfl, es, rfl, rfl, hall, hnone, hcell⟩
          · cases ho
        · split at ho
          · cases ho; cases hl; exact hblt
          · cases ho
      obtain ⟨A2, cap2, us, hv, h1, h2⟩ := src_rows iq (p := .buf 0 es.length) (v := .slice (some ⟨b, base, none⟩) es.length c) (.buf 0 es.length _ c ⟨some (b, base), es.length, sz'⟩ rfl rfl hh hc) (ys := es) rfl hpos hall
      obtain ⟨rfl, _, rfl⟩ := Value.slice.inj hv
      refine ⟨us, h1, fun q hq => ?_⟩
      have he0 : 0 < es.length := by
        rcases Nat.eq_zero_or_pos es.length with h | h
        · rw [h1.1, h, Nat.zero_mul] at hq; omega
        · exact h
      obtain ⟨ad2, e2, h3⟩ := h2 he0
      cases e2
      have := h3 q us[q] (List.getElem?_eq_getElem hq)
      rw [add_off, cell_at hw] at this
      rw [this, List.getElem?_eq_getElem hq]
    obtain ⟨us, hus, hcells⟩ := hold
    have hulen := hus.1
    have hvlen := hvrows.1
    have hks : k * sz' ≤ es.length * sz' := Nat.mul_le_mul_right _ hk
    have hadd : (k + ys.length) * sz' = k * sz' + ys.length * sz' := Nat.add_mul _ _ _
    have hsub : (es.length - k) * sz' = es.length * sz' - k * sz' := Nat.sub_mul _ _ _
    have hncap : es.length * sz' ≤ c * sz' := Nat.mul_le_mul_right _ hh.1
    have hdl : (us.drop (k * sz')).length = (es.length - k) * sz' := by simp only [List.length_drop]; omega
    have hadne : ad.block ≠ b := fun h => hbnok (h ▸ hadok)
    have hl0 : c1.toList.length = c1.size := by simp
    have holdc : ∀ q, q < us.length → c1.toList[base + q]? = us[q]? := fun q hq => by rw [Array.getElem?_toList]; exact hcells q hq
    by_cases hfit : es.length + ys.length ≤ c
    · have hfits : es.length * sz' + ys.length * sz' ≤ c * sz' := by rw [← Nat.add_mul]; exact Nat.mul_le_mul_right _ hfit
      by_cases hkn : k = es.length
      · subst hkn
        have hrun := append_fits (P := P) (w := w) (ats := #[t, t]) (ty := t) rfl h0 h0 (by rw [hsz]; exact hpos) (A := some ⟨b, base, none⟩) (A' := some ad) (n := es.length) (cap := c) (m := ys.length) (cap' := c') (vs := vs) (hul2 hvlen) (fun _ => ⟨ad, rfl, hvc⟩) hvrows.2.1 hfit rfl hw (by rw [hsz]; omega)
        refine Calls.mono (W.last w _ _ _ c _ c' hh.1 hm _ _ hrun) fun e' w' he => ?_
        obtain ⟨rfl, rfl⟩ := he
        rw [hsz]
        have hle : base + es.length * sz' + vs.length ≤ c1.toList.length := by omega
        have hwr := wrote_setRow (c' := (splice c1.toList (base + es.length * sz') vs).toArray) hw (by simp [splice_length hle])
        refine cons_same (c := (splice c1.toList (base + es.length * sz') vs).toArray) hbnok rfl rfl rfl hwr.size hwr.other hw hwr.now (by simp [splice_length hle]) hall hys hk hus hvrows (fun q hq => ?_) (fun q hq => ?_) (fun q hq => ?_) hfit hroom
        · rw [sp_out hle (.inl (by omega))]; exact holdc q (by omega)
        · rw [sp_in hle (by omega)]; congr 1; omega
        · simp at hq
      · have hov : ∀ lb cb, (Extern.SlicesOverlaps.overlaps #[t, t] #[tr] #[.slice (some ad) ys.length c', .slice (some ⟨b, base + (k + ys.length) * sz', none⟩) lb cb]).run P w = .ok (.bool false) w := fun lb cb => by
          have hu0 : 0 < vs.length := by rw [hvlen]; exact Nat.mul_pos hm hpos
          obtain ⟨c3, T3, fr3, h3, h4⟩ := block_of_cell (hvc 0 vs[0] (List.getElem?_eq_getElem hu0))
          rw [add_block] at h3
          exact overlaps_run w t tr e h0 sz' (fun w' => by rw [run_sizeOf w' hii]; exact congrArg (fun x => Result.ok x w') hsz) ad b _ _ _ _ _ hadne h3 hw (by
            have : 0 < c * sz' := Nat.mul_pos (by omega) hpos
            omega) h4
        have hle1 : base + (k + ys.length) * sz' + (us.drop (k * sz')).length ≤ c1.toList.length := by omega
        have hwd : w.drew.heap[b]? = some (.cells c1 T (0, 0)) := hw
        have hc1 := copy_run (P := P) (w := w.drew) (t := t) (t' := t) (ty := ti) h0 (by rw [hsz]; exact hpos) (b := b) (o := base + (k + ys.length) * sz') (dLen := es.length + ys.length - (k + ys.length)) (dCap := c - (k + ys.length)) (sLen := es.length + ys.length - k) (sCap := c - k) (A := some ⟨b, base + k * sz', none⟩) (us := us.drop (k * sz')) (n := es.length - k)
          (by simp only [Nat.min_def]; split <;> omega) (by rw [hsz]; exact hdl) (fun _ => ⟨_, rfl, fun q u hq => by
            rw [add_off, cell_at hwd, Nat.add_assoc]
            rw [List.getElem?_drop] at hq
            rw [hcells _ (List.getElem?_eq_some_iff.1 hq).1]; exact hq⟩) (fun v hv => hus.2.1 v (List.mem_of_mem_drop hv)) hwd (by rw [← hl0]; exact hle1)
        have hs1 : (splice c1.toList (base + (k + ys.length) * sz') (us.drop (k * sz'))).toArray.size = c1.size := by rw [List.size_toArray, splice_length hle1, hl0]
        have hwr := wrote_setRow (w := w.drew) (c' := (splice c1.toList (base + (k + ys.length) * sz') (us.drop (k * sz'))).toArray) hwd hs1
        have hle2 : base + k * sz' + vs.length ≤ (splice c1.toList (base + (k + ys.length) * sz') (us.drop (k * sz'))).length := by rw [splice_length hle1]; omega
        have hc2 := copy_run (P := P) (w := w.drew.setRow b (splice c1.toList (base + (k + ys.length) * sz') (us.drop (k * sz'))).toArray) (t := t) (t' := t) (ty := ti) h0 (by rw [hsz]; exact hpos) (b := b) (o := base + k * sz') (dLen := es.length + ys.length - k) (dCap := c - k) (sLen := ys.length) (sCap := c') (A := some ad) (us := vs) (n := ys.length)
          (by simp only [Nat.min_def]; split <;> omega) (hul2 hvlen) (fun _ => ⟨_, rfl, fun q u hq => by
            rw [cell_of_block (w := w) (by rw [add_block]; exact hwr.other _ hadne)]
            exact hvc q u hq⟩) hvrows.2.1 hwr.now (by simpa using hle2)
        have hs2 : (splice (splice c1.toList (base + (k + ys.length) * sz') (us.drop (k * sz'))) (base + k * sz') vs).toArray.size = (splice c1.toList (base + (k + ys.length) * sz') (us.drop (k * sz'))).toArray.size := by rw [List.size_toArray, splice_length hle2, List.size_toArray]
        have hwr2 := wrote_setRow (c' := (splice (splice c1.toList (base + (k + ys.length) * sz') (us.drop (k * sz'))) (base + k * sz') vs).toArray) hwr.now hs2
        refine Calls.mono (W.shift w b base es.length c k ys.length c' (some ad) (by omega) hh.1 hm hfit hnm40 _ _ hov hc1 hc2) fun e' w' he => ?_
        obtain ⟨rfl, rfl⟩ := he
        refine cons_same (c := (splice (splice c1.toList (base + (k + ys.length) * sz') (us.drop (k * sz'))) (base + k * sz') vs).toArray) hbnok rfl rfl rfl (hwr2.size.trans hwr.size) (fun b' hb' => (hwr2.other b' hb').trans (hwr.other b' hb')) hw hwr2.now (hs2.trans hs1) hall hys hk hus hvrows (fun q hq => ?_) (fun q hq => ?_) (fun q hq => ?_) hfit hroom
        · rw [sp_out hle2 (.inl (by omega)), splice_out hle1 (.inl (by omega))]; exact holdc q (by omega)
        · rw [sp_in hle2 (by omega)]; congr 1; omega
        · rw [sp_out hle2 (.inr (by omega)), splice_in hle1 (by omega), List.getElem?_drop]
    · by_cases hkn : k = es.length
      · subst hkn
        obtain ⟨newCap, rest, g1, g2, g3⟩ := append_grows (P := P) (w := w) (ats := #[t, t]) (ty := t) rfl h0 h0 hel (A := some ⟨b, base, none⟩) (A' := some ad) (n := es.length) (cap := c) (m := ys.length) (cap' := c') (us := us) (vs := vs) (hul2 hulen)
          (fun _ => ⟨_, rfl, fun q u hq => by rw [add_off, cell_at hw, hcells _ (List.getElem?_eq_some_iff.1 hq).1]; exact hq⟩) (hul2 hvlen) (fun _ => ⟨ad, rfl, hvc⟩) (by omega) (by rw [hby]; exact hbig40)
        refine Calls.mono (W.last w _ _ _ c _ c' hh.1 hm _ _ g3) fun e' w' he => ?_
        obtain ⟨rfl, rfl⟩ := he
        rw [hsz] at g2
        refine cons_new (w := w) hok rfl rfl rfl (by show (w.heap.push _).size = _; simp) (fun b hb => Below.heap_alloc w.drew _ b hb) (heap_new w.drew _) hall hys hk hus hvrows (fun q hq => ?_) (fun q hq => ?_) (fun q hq => ?_) g1 ?_
        · simp only [Nat.zero_add, List.getElem?_toArray]
          rw [List.append_assoc, List.getElem?_append_left (by omega)]
        · simp only [Nat.zero_add, List.getElem?_toArray]
          rw [List.append_assoc, List.getElem?_append_right (by omega), List.getElem?_append_left (by omega)]
          congr 1; omega
        · simp at hq
        · simp only [List.size_toArray, List.length_append, hulen, hvlen, g2]
          rw [← Nat.add_mul, ← Nat.add_mul]
          exact Nat.mul_le_mul_right _ (by omega)
      · have hint : ((es.length : Int) + (ys.length : Int) - (k : Int)) = ((es.length + ys.length - k : Nat) : Int) := by omega
        have htl : (us.take (k * sz')).length = k * sz' := by simp; omega
        obtain ⟨newCap, rest, g1, g2, g3⟩ := append_zeros (P := P) (w := w) (t0 := t) (t1 := ti) (ty := t) h0 hti hel (A := some ⟨b, base, none⟩) (n := k) (cap := c) (m := es.length + ys.length - k) (us := us.take (k * sz')) (by rw [hsz]; exact htl)
          (fun _ => ⟨_, rfl, fun q u hq => by
            have hqk : q < k * sz' := by have := (List.getElem?_eq_some_iff.1 hq).1; omega
            rw [List.getElem?_take_of_lt hqk] at hq
            rw [add_off, cell_at hw, hcells _ (List.getElem?_eq_some_iff.1 hq).1]; exact hq⟩) (by omega) (by rw [hby, show k + (es.length + ys.length - k) = es.length + ys.length by omega]; exact hbig40)
        rw [show k + (es.length + ys.length - k) = es.length + ys.length by omega] at g1 g3
        rw [hsz, Nat.sub_mul] at g2
        have hnc2 : (es.length + ys.length) * sz' ≤ newCap * sz' := Nat.mul_le_mul_right _ g1
        rw [Nat.add_mul] at hnc2
        rw [← hint] at g3
        generalize hcs : us.take (k * sz') ++ rest = cs at g3
        have hcsl : cs.length = newCap * sz' := by rw [← hcs, List.length_append, htl, g2]; omega
        have hcs1 : ∀ q, q < k * sz' → cs[q]? = us[q]? := fun q hq => by rw [← hcs, List.getElem?_append_left (by omega), List.getElem?_take_of_lt hq]
        have hheap : (w.drew.alloc (.cells cs.toArray e)).heap[w.heap.size]? = some (.cells cs.toArray e (0, 0)) := heap_new w.drew _
        have hblk : ∀ b', b' < w.heap.size → (w.drew.alloc (.cells cs.toArray e)).heap[b']? = w.heap[b']? := fun b' hb' => Below.heap_alloc w.drew _ b' hb'
        have hle1 : 0 + k * sz' + vs.length ≤ cs.length := by omega
        have hc1 := copy_run (P := P) (w := w.drew.alloc (.cells cs.toArray e)) (t := t) (t' := t) (ty := ti) h0 (by rw [hsz]; exact hpos) (b := w.heap.size) (o := 0 + k * sz') (dLen := es.length + ys.length - k) (dCap := newCap - k) (sLen := ys.length) (sCap := c') (A := some ad) (us := vs) (n := ys.length)
          (by simp only [Nat.min_def]; split <;> omega) (hul2 hvlen) (fun _ => ⟨_, rfl, fun q u hq => by
            rw [cell_of_block (w := w) (by rw [add_block]; exact hblk _ (hok _ hadok))]
            exact hvc q u hq⟩) hvrows.2.1 hheap (by simpa using hle1)
        have hs1 : (splice cs (0 + k * sz') vs).toArray.size = cs.toArray.size := by rw [List.size_toArray, splice_length hle1, List.size_toArray]
        have hwr := wrote_setRow (c' := (splice cs (0 + k * sz') vs).toArray) hheap hs1
        generalize hW2 : (w.drew.alloc (.cells cs.toArray e)).setRow w.heap.size (splice cs (0 + k * sz') vs).toArray = W2 at hwr
        have hc1' : (Builtin.copy_ #[t, t] ti #[.slice (some ⟨w.heap.size, 0 + k * sz', none⟩) (es.length + ys.length - k) (newCap - k), .slice (some ad) ys.length c']).run P (w.drew.alloc (.cells cs.toArray e)) = .ok (goInt ys.length) W2 := by rw [← hW2]; exact hc1
        have hW2now : W2.drew.heap[w.heap.size]? = some (.cells (splice cs (0 + k * sz') vs).toArray e (0, 0)) := hwr.now
        have hW2b : W2.drew.heap[b]? = some (.cells c1 T (0, 0)) := by
          show W2.heap[b]? = _
          rw [hwr.other b (by omega), hblk b hblt]; exact hw
        have hle2 : 0 + (k + ys.length) * sz' + (us.drop (k * sz')).length ≤ (splice cs (0 + k * sz') vs).length := by rw [splice_length hle1]; omega
        have hc2 := copy_run (P := P) (w := W2.drew) (t := t) (t' := t) (ty := ti) h0 (by rw [hsz]; exact hpos) (b := w.heap.size) (o := 0 + (k + ys.length) * sz') (dLen := es.length + ys.length - (k + ys.length)) (dCap := newCap - (k + ys.length)) (sLen := es.length - k) (sCap := c - k) (A := some ⟨b, base + k * sz', none⟩) (us := us.drop (k * sz')) (n := es.length - k)
          (by simp only [Nat.min_def]; split <;> omega) (by rw [hsz]; exact hdl) (fun _ => ⟨_, rfl, fun q u hq => by
            rw [add_off, cell_at hW2b, Nat.add_assoc]
            rw [List.getElem?_drop] at hq
            rw [hcells _ (List.getElem?_eq_some_iff.1 hq).1]; exact hq⟩) (fun v hv => hus.2.1 v (List.mem_of_mem_drop hv)) hW2now (by simpa using hle2)
        have hs2 : (splice (splice cs (0 + k * sz') vs) (0 + (k + ys.length) * sz') (us.drop (k * sz'))).toArray.size = (splice cs (0 + k * sz') vs).toArray.size := by rw [List.size_toArray, splice_length hle2, List.size_toArray]
        have hwr2 := wrote_setRow (w := W2.drew) (c' := (splice (splice cs (0 + k * sz') vs) (0 + (k + ys.length) * sz') (us.drop (k * sz'))).toArray) hW2now hs2
        refine Calls.mono (W.grow w b base es.length c k ys.length c' (some ad) (by omega) hh.1 hm (by omega) hnm40 _ _ newCap _ _ g3 g1 hc1' hc2) fun e' w' he => ?_
        obtain ⟨rfl, rfl⟩ := he
        have hsz2 : W2.heap.size = w.heap.size + 1 := by rw [hwr.size]; show (w.heap.push _).size = _; simp
        refine cons_new (w := w) (c := (splice (splice cs (0 + k * sz') vs) (0 + (k + ys.length) * sz') (us.drop (k * sz'))).toArray) hok (by show W2.os = _; rw [← hW2]; rfl) (by show W2.tape = _; rw [← hW2]; rfl) (by show W2.output = _; rw [← hW2]; rfl) (hwr2.size.trans hsz2) (fun b' hb' => (hwr2.other b' (by omega)).trans ((hwr.other b' (by omega)).trans (hblk b' hb'))) hwr2.now hall hys hk hus hvrows (fun q hq => ?_) (fun q hq => ?_) (fun q hq => ?_) g1 (by rw [hs2, hs1]; simp [hcsl])
        · rw [sp_out hle2 (.inl (by omega)), splice_out hle1 (.inl (by omega)), Nat.zero_add]; exact hcs1 q hq
        · rw [sp_out hle2 (.inl (by omega)), splice_in hle1 hq]
        · rw [sp_in hle2 (by omega), List.getElem?_drop]
          congr 1; omega
  · cases hr
end Go.AM

/- Contracts off runs: a printed function's contract; tables of closures. -/
set_option linter.unusedVariables false
set_option linter.unusedSimpArgs false
namespace Go.AM
open Go.RowKit

theorem enters_of {P : Program} {g : FuncId} {f : Func} (hg : P.funcs[g]? = some f) (hn : (f.name == "runtime.NumGoroutine") = false) (hb : f.body.isNone = false) : Enters P g := by
  intro args w
  unfold callFunc
  simp only [Sem.run_bind]
  have hp : (program).run P w = .ok P w := rfl
  simp only [hp, Result.andThen_ok, hg, hn, hb, Bool.false_eq_true, if_false]
  rfl

section
variable {P : Program} {Γ : FuncId → Option FSig} {C : IV → List Nat → List (List IV) → Option (List IV)} {A : Ann}
/-- What is held of a closure's captured values. -/
def CapsRel (w : World) (ok : Nat → Prop) (caps : List IV) (cv : List Value) : Prop := caps.length = cv.length ∧ ∀ (i : Nat) (c : IV) (v : Value), caps[i]? = some c → cv[i]? = some v → RV w ok c v
theorem pure_of_run (hΓ : GOK P Γ) (hC : COK P C) (hm : P.follows .mixedOrders = true) {g : FuncId} {f : Func} (hg : P.funcs[g]? = some f) (hb : (match f.body with | some c => fnOK Γ A c | none => false) = true)
    {caps : List IV} {cv : List Value} {W : World} {OK : Nat → Prop} (hcap : CapsRel W OK caps cv) {ns : List Nat} (hns : f.resultTypes.toList.map P.cellsOf = ns) {fn : List (List IV) → Option (List IV)} (hfn : ∀ as r, fn as = some r → run P Γ C A f (as ++ caps.map fun c => [c]) = some r) : PureAt P g cv ns fn W OK := by
  intro w ok as args r hk hok hargs hr
  have hargs' : ArgsRel w ok (as ++ caps.map fun c => [c]) (args ++ cv) := by
    refine ⟨by simp [hargs.1, hcap.1], fun i c v h1 h2 => ?_⟩
    by_cases hi : i < as.length
    · rw [List.getElem?_append_left hi] at h1
      rw [List.getElem?_append_left (by rw [← hargs.1]; exact hi)] at h2
      exact hargs.2 i c v h1 h2
    · rw [List.getElem?_append_right (by omega), List.getElem?_map] at h1
      rw [List.getElem?_append_right (by rw [← hargs.1]; omega), ← hargs.1] at h2
      cases hc : caps[i - as.length]? with
      | none => rw [hc] at h1; cases h1
      | some x =>
        rw [hc] at h1; cases h1
        exact .inl ⟨x, rfl, (hcap.2 _ x v hc h2).keeps hk⟩
  subst hns
  exact run_sound hΓ hC hm hg hb hok hargs' (hfn as r hr)
theorem sig_pure (hΓ : GOK P Γ) (hC : COK P C) (hm : P.follows .mixedOrders = true) {g : FuncId} {f : Func} (hg : P.funcs[g]? = some f) (hb : (match f.body with | some c => fnOK Γ A c | none => false) = true)
    {ns : List Nat} (hns : f.resultTypes.toList.map P.cellsOf = ns) {sc : Bool} (hsc : A.scalar = sc) {fn : List (List IV) → Option (List IV)} (hfn : ∀ as r, fn as = some r → run P Γ C A f as = some r) : SigOK P g ⟨.pure, sc, ns, 0, fn⟩ := by
  refine ⟨fun w ok => pure_of_run hΓ hC hm hg hb (caps := []) (cv := []) ⟨rfl, fun i c v h => by simp at h⟩ hns fun as r h => by simpa using hfn as r h, fun h as r hr => ?_⟩
  exact run_scalar (hsc.trans h) (hfn as r hr)
end

theorem GOK.nil {P : Program} : GOK P fun _ => none := fun g s h => by cases h
theorem GOK.ite {P : Program} {Γ : FuncId → Option FSig} {n : FuncId} {s : FSig} (h1 : Enters P n ∧ SigOK P n s) (h2 : GOK P Γ) : GOK P fun f => if f = n then some s else Γ f := fun g s' h => by
  have h : (if g = n then some s else Γ g) = some s' := h
  by_cases e : g = n
  · subst e; rw [if_pos rfl] at h; cases h; exact h1
  · rw [if_neg e] at h; exact h2 g s' h
theorem cok_none {P : Program} : COK P fun _ _ _ => none := fun x ns w ok v hv h => by obtain ⟨as, r, h⟩ := h; cases h
theorem cok_tbl {P : Program} {g : Nat} {ns : List Nat} {fn : List IV → List (List IV) → Option (List IV)} {rest : IV → List Nat → List (List IV) → Option (List IV)} (hen : Enters P g)
    (hp : ∀ (caps : List IV) (cv : List Value) (w : World) (ok : Nat → Prop), CapsRel w ok caps cv → PureAt P g cv ns (fn caps) w ok) (hr : COK P rest) : COK P (tbl g ns fn rest) := by
  intro x ns' w ok v hv h
  have other : tbl g ns fn rest x ns' = rest x ns' → ∃ g' cv, v = .func (.func g') #[] cv ∧ Enters P g' ∧ PureAt P g' cv.toList ns' (tbl g ns fn rest x ns') w ok := fun e => by
    rw [e] at h ⊢
    exact hr x ns' w ok v hv h
  cases hv with
  | clo f caps cv hlen hrel =>
    cases f with
    | func n =>
      by_cases e : n = g ∧ ns' = ns
      · obtain ⟨rfl, rfl⟩ := e
        refine ⟨n, cv, rfl, hen, ?_⟩
        have : tbl n ns' fn rest (.clo (.func n) caps) ns' = fn caps := by funext l; simp [tbl]
        rw [this]
        exact hp caps cv.toList w ok ⟨by simpa using hlen, fun i c v h1 h2 => hrel i c v h1 (by rw [← Array.getElem?_toList]; exact h2)⟩
      · exact other (by funext l; simp [tbl, e])
    | _ => exact other (by funext l; rfl)
  | _ => exact other (by funext l; rfl)
end Go.AM

/- Contracts off runs: functions that are lent a box with a buffer, or a buffer; functions that make such a box. -/
set_option linter.unusedVariables false
set_option linter.unusedSimpArgs false
namespace Go.AM
open Go.RowKit

section
variable {P : Program} {Γ : FuncId → Option FSig} {C : IV → List Nat → List (List IV) → Option (List IV)} {A : Ann}

theorem results_of {f : Func} {tmps : Array Value} {w : World} {ok : Nat → Prop} {r : List IV} {ns : List Nat} {vs : List Value} (h1 : (f.results.toList.mapM (resSem tmps)).run P w = .ok vs w) (h2 : vs.length = ns.length) (hall : ResAll w ok r ns 0 vs) :
    ∃ v, (results f tmps).run P w = .ok v w ∧ ResRel w ok ns r v := by
  have hr : results f tmps = (do let vs ← f.results.mapM (resSem tmps); pure (if h : vs.size = 1 then vs[0] else .tuple vs)) := by
    unfold results
    congr 2
  have hm : (f.results.mapM (resSem tmps)).run P w = .ok vs.toArray w := by
    rw [Array.mapM_eq_mapM_toList, map_eq_pure_bind]
    simp only [Sem.run_bind, h1, Result.andThen_ok, Sem.run_pure]
  refine ⟨if h : vs.toArray.size = 1 then vs.toArray[0] else .tuple vs.toArray, by rw [hr, Sem.run_bind, hm]; rfl, ?_⟩
  match ns, vs, h2, hall with
  | [n], [v], _, hall => exact hall.1
  | [], [], _, _ => exact ⟨_, rfl, trivial⟩
  | n :: m :: ns, v :: u :: vs, _, hall =>
    unfold ResRel
    split
    · rename_i heq; cases heq
    · refine ⟨_, by rw [dif_neg (by simp)], by simpa using hall⟩
theorem resI_rel {w : World} {ok : Nat → Prop} {mu : Mu} {st : St} {a : Act} (hf : Fr w ok mu st.fr a.tmps) : ∀ (rs : List ResultVar) (cs : List IV), resI st rs = some cs → ∃ vs, (rs.mapM (resSem a.tmps)).run P w = .ok vs w ∧ vs.length = rs.length ∧ cs.length = rs.length ∧
    ∀ (j : Nat) (x : IV) (v : Value), cs[j]? = some x → vs[j]? = some v → RV w ok x v
  | [], cs, h => by
    simp only [resI, Option.some.injEq] at h
    subst h
    exact ⟨[], rfl, rfl, rfl, fun j x v h _ => by simp at h⟩
  | .cell _ _ :: rs, cs, h => by simp [resI] at h
  | .tmp t :: rs, cs, h => by
    simp only [resI] at h
    split at h
    · rename_i x xs hx hxs
      cases h
      obtain ⟨vs, h1, h2, h3, h4⟩ := resI_rel hf rs xs hxs
      have r : RP w ok mu (st.fr.getD t .undef) (a.tmps.getD t undef) := hf.ev (.tmp t)
      rw [hx] at r
      refine ⟨a.tmps.getD t undef :: vs, ?_, by simp [h2], by simp [h3], fun j y v h5 h6 => ?_⟩
      · simp only [List.mapM_cons, resSem, Sem.run_bind, h1, Sem.run_pure, Result.andThen_ok]
      · cases j with
        | zero =>
          simp at h5 h6; subst h5; subst h6
          cases r with
          | imm r => simpa [Array.getD_eq_getD_getElem?] using r
        | succ j => exact h4 j y v (by simpa using h5) (by simpa using h6)
    · cases h
theorem resAll_ones {w : World} {ok : Nat → Prop} {r : List IV} : ∀ (ns : List Nat) (i : Nat) (vs : List Value), ns.all (· == 1) = true → vs.length = ns.length → (∀ (j : Nat) (v : Value), vs[j]? = some v → RV w ok (nth r (i + j)) v) → ResAll w ok r ns i vs
  | [], _, [], _, _, _ => trivial
  | [], _, _ :: _, _, h, _ => by simp at h
  | _ :: _, _, [], _, h, _ => by simp at h
  | n :: ns, i, v :: vs, h1, h2, h3 => by
    simp only [List.all_cons, Bool.and_eq_true, beq_iff_eq] at h1
    refine ⟨.inl ⟨h1.1, h3 0 v rfl⟩, resAll_ones ns (i + n) vs h1.2 (by simpa using h2) fun j u hu => ?_⟩
    have := h3 (j + 1) u (by simpa using hu)
    rw [h1.1, show i + 1 + j = i + (j + 1) by omega]; exact this
/-- A frame of one more. -/
theorem fr_first {W : World} {OK : Nat → Prop} {mu0 : Mu} {p0 : PV} {v0 : Value} (h0 : RP W OK mu0 p0 v0) {ps : List PV} {args : List Value} (hl : ps.length = args.length) (hrel : ∀ (i : Nat) (p : PV) (v : Value), ps[i]? = some p → args[i]? = some v → RP W OK (fun _ => none) p v) (N : Nat) :
    Fr W OK mu0 (p0 :: ps ++ List.replicate (N - (ps.length + 1)) .skip) ((v0 :: args).toArray ++ Array.replicate (N - (v0 :: args).toArray.size) undef) := by
  have hlt : Later W OK (fun _ => none) W OK mu0 := ⟨.refl _ _, fun o pl h => (by cases h), .refl _⟩
  refine ⟨by simp [hl]; omega, fun t p v h1 h2 => ?_⟩
  simp only [Array.getElem?_append, List.size_toArray] at h2
  by_cases hlt' : t < args.length + 1
  · rw [List.getElem?_append_left (by simp; omega)] at h1
    rw [if_pos (by simpa using hlt')] at h2
    cases t with
    | zero => simp at h1 h2; subst h1; subst h2; exact h0
    | succ t => exact (hrel t p v (by simpa using h1) (by simpa using h2)).later hlt
  · rw [List.getElem?_append_right (by simp; omega), List.getElem?_replicate] at h1
    rw [if_neg (by simpa using hlt'), Array.getElem?_replicate] at h2
    split at h1
    · split at h2
      · cases h1; cases h2; exact .skip
      · cases h2
    · cases h1
theorem first_get (v0 : Value) (args : List Value) (N : Nat) : (((v0 :: args).toArray ++ Array.replicate (N - (v0 :: args).toArray.size) undef)[0]?).getD undef = v0 := by
  simp [Array.getElem?_append]
theorem fr_args {W : World} {OK : Nat → Prop} {ps : List PV} {args : List Value} (hl : ps.length = args.length) (hrel : ∀ (i : Nat) (p : PV) (v : Value), ps[i]? = some p → args[i]? = some v → RP W OK (fun _ => none) p v) (N : Nat) :
    Fr W OK (fun _ => none) (ps ++ List.replicate (N - ps.length) .skip) (args.toArray ++ Array.replicate (N - args.toArray.size) undef) := by
  refine ⟨by simp [hl], fun t p v h1 h2 => ?_⟩
  simp only [Array.getElem?_append, List.size_toArray] at h2
  by_cases hlt : t < args.length
  · rw [List.getElem?_append_left (by omega)] at h1
    rw [if_pos hlt] at h2
    exact hrel t p v h1 (by simpa using h2)
  · rw [List.getElem?_append_right (by omega), List.getElem?_replicate] at h1
    rw [if_neg hlt, Array.getElem?_replicate] at h2
    split at h1
    · split at h2
      · cases h1; cases h2; exact .skip
      · cases h2
    · cases h1
theorem inv_nil {W : World} {OK : Nat → Prop} (hok : ∀ b, OK b → b < W.heap.size) (lent : Nat → Prop) : Inv W ⟨OK, lent⟩ W OK (fun _ => none) [] :=
  ⟨.refl _ _ _, hok, fun b hb => .inl hb, fun o pl ho => (by cases ho), fun o pl b base ho => (by cases ho), fun o o' pl pl' b base base' ho => (by cases ho)⟩
theorem runM_sound (hΓ : GOK P Γ) (hC : COK P C) (hm : P.follows .mixedOrders = true) {g : FuncId} {f : Func} (hg : P.funcs[g]? = some f) (hb : (match f.body with | some c => fnOK Γ A c | none => false) = true) {W : World} {OK : Nat → Prop} (hok : ∀ b, OK b → b < W.heap.size)
    {shp : List Sc} {vs : List IV} {v0 : Value} {pl : Pl} {pA : Nat → Pl} (tv : ObjVal W OK shp vs v0 pl pA) (hin : ∀ b, ObjLoc shp pl pA b → b < W.heap.size)
    {as : List (List IV)} {args : List Value} (hargs : ArgsRel W OK as args) {r : List IV} (hr : runM P Γ C A shp f vs as = some r) :
    Calls P g (v0 :: args).toArray W fun e w' => ∃ v ok' pA', e = .returned v ∧ w'.os = W.os ∧ w'.tape = W.tape ∧ w'.output = W.output ∧ W.heap.size ≤ w'.heap.size ∧ Sizes W w' ∧
      (∀ b, b < W.heap.size → ¬ ObjLoc shp pl pA b → w'.heap[b]? = W.heap[b]?) ∧ (∀ b, OK b → ok' b) ∧ (∀ b, ok' b → OK b ∨ (W.heap.size ≤ b ∧ b < w'.heap.size) ∨ ObjBuf shp pA b) ∧ ObjVal w' ok' shp r v0 pl pA' ∧
      (∀ b, ObjBuf shp pA' b → (W.heap.size ≤ b ∧ b < w'.heap.size) ∨ ObjBuf shp pA b) ∧ ResRel w' ok' (f.resultTypes.toList.map P.cellsOf) (r.drop shp.length) v := by
  unfold runM at hr
  split at hr
  · rename_i c ps hc hps
    rw [hc] at hb
    split at hr
    · rename_i hcond
      obtain ⟨hvl, hall, hrs, hw0⟩ := hcond
      obtain ⟨hl, hrel⟩ := initArgs_rel _ _ _ _ _ hps hargs.1 hargs.2
      obtain ⟨b0, base0, c0, T0, hl0, hv0, _⟩ := tv.box
      obtain ⟨mu0, hinv, hfr, _, hmu1, _⟩ := (inv_nil hok (fun b => ObjLoc shp pl pA b)).addObj (fun _ _ => rfl) (r := vs) (i0 := 0) tv (fun j _ => by rw [Nat.zero_add]) fun b hb => ⟨.inr hb, hin b hb, fun o p' base' h => by cases h⟩
      simp only [List.nil_append, List.length_nil, Nat.zero_add] at hinv hfr hmu1
      refine calls_of_wp hg hc (top_sound (w0 := W) (ok0 := ⟨OK, fun b => ObjLoc shp pl pA b⟩) hΓ hC hm c hb _ _ _ r hr (fun _ _ => rfl) _ W OK mu0 ⟨hinv, hfr, fr_first (by rw [hv0]; exact .ptr shp.length 0 pl b0 base0 hmu1 hl0) hl hrel f.ntmps⟩ _ fun e st' a' w' ok' mu' hk hcf hst => ?_)
      have done : (match objT st'.h shp (st'.fr.getD 0 .undef), resI st' f.results.toList with | some p, some r => some (p.1 ++ r) | _, _ => none) = some r → a'.defers = [] ∧ ∃ v, (results f a'.tmps).run P w' = .ok v w' ∧ ∃ v_1 ok' pA', Ending.returned v = .returned v_1 ∧ w'.os = W.os ∧ w'.tape = W.tape ∧ w'.output = W.output ∧ W.heap.size ≤ w'.heap.size ∧ Sizes W w' ∧
            (∀ b, b < W.heap.size → ¬ ObjLoc shp pl pA b → w'.heap[b]? = W.heap[b]?) ∧ (∀ b, OK b → ok' b) ∧ (∀ b, ok' b → OK b ∨ (W.heap.size ≤ b ∧ b < w'.heap.size) ∨ ObjBuf shp pA b) ∧ ObjVal w' ok' shp r v0 pl pA' ∧
            (∀ b, ObjBuf shp pA' b → (W.heap.size ≤ b ∧ b < w'.heap.size) ∨ ObjBuf shp pA b) ∧ ResRel w' ok' (f.resultTypes.toList.map P.cellsOf) (r.drop shp.length) v_1 := by
          intro h
          split at h
          · rename_i p rs hp hrr
            cases h
            obtain ⟨vs', os⟩ := p
            have hv0' : a'.tmps.getD 0 undef = v0 := by
              have := hst.same 0 (by simpa using hw0)
              rw [Array.getD_eq_getD_getElem?, this]
              exact first_get _ _ _
            have hrp : RP w' ok' mu' (st'.fr.getD 0 .undef) v0 := by
              have : RP w' ok' mu' (st'.fr.getD 0 .undef) (a'.tmps.getD 0 undef) := hcf.fr.ev (.tmp 0)
              rwa [hv0'] at this
            obtain ⟨_, q0, hq0, _⟩ := objT_rw hp
            rw [hq0] at hp hrp
            obtain ⟨pl2, pA', hm2, tv2, hlen', hrw, hqos, hA⟩ := objT_val hcf.inv hp hrp
            have hpl2 : pl.loc = pl2.loc := by
              obtain ⟨b2, base2, c2, T2, e1, e2, _⟩ := tv2.box
              rw [hv0] at e2
              simp only [Value.pointer.injEq, Option.some.injEq, Addr.mk.injEq] at e2
              rw [hl0, e1, e2.1, e2.2.1]
            have tv' := tv2.at hpl2
            obtain ⟨us, g1, g2, g3, g4⟩ := resI_rel (P := P) hcf.fr _ _ hrr
            have hnl : us.length = (f.resultTypes.toList.map P.cellsOf).length := by rw [g2]; simpa using hrs
            have hdrop : (vs' ++ rs).drop shp.length = rs := by rw [← hlen', List.drop_left]
            obtain ⟨v, k1, k2⟩ := results_of (f := f) (ok := ok') (r := rs) g1 hnl (resAll_ones _ 0 us hall hnl fun j v hv => by
              have hj : j < rs.length := by have := (List.getElem?_eq_some_iff.1 hv).1; omega
              refine g4 j _ v ?_ hv
              rw [Nat.zero_add, nth_get hj])
            refine ⟨hst.defers, v, k1, v, ok', pA', rfl, hcf.inv.below.os, hcf.inv.below.tape, hcf.inv.below.output, hcf.inv.below.size, hst.later.sizes, fun b hb h1 => hcf.inv.below.block b hb h1, hst.later.keeps.more, fun b hb => ?_, tv'.congr fun j hj => ?_, fun b hb => ?_, by rw [hdrop]; exact k2⟩
            · rcases hcf.inv.okb b hb with h | h | h
              · exact .inl h
              · exact .inr (.inl ⟨h, hcf.inv.okw b hb⟩)
              · rcases h with h | h
                · exact absurd hb (tv'.free b (.inl h))
                · exact .inr (.inr h)
            · rw [nth_append_left (by show j < vs'.length; omega)]
            · obtain ⟨k, hk2, _, plq, base, g5, g6⟩ := hA b hb
              obtain ⟨e1, e2, _⟩ := hcf.inv.own k plq b base g5 g6
              rcases e1 with e1 | e1
              · exact .inl ⟨e1, e2⟩
              · rcases e1 with ⟨base2, e1⟩ | e1
                · exact absurd hb (tv'.apart b base2 e1)
                · exact .inr e1
          · cases h
      cases e with
      | normal => exact done hk
      | exit j => cases hk
      | goto l => cases hk
      | ret => exact done hk
    · cases hr
  · cases hr
theorem sig_obj (hΓ : GOK P Γ) (hC : COK P C) (hm : P.follows .mixedOrders = true) {g : FuncId} {f : Func} (hg : P.funcs[g]? = some f) (hb : (match f.body with | some c => fnOK Γ A c | none => false) = true)
    {ns : List Nat} (hns : f.resultTypes.toList.map P.cellsOf = ns) {shp : List Sc} {fn : List (List IV) → Option (List IV)} (hfn : ∀ vs as r, vs.length = shp.length → fn (vs :: as) = some r → runM P Γ C A shp f vs as = some r) (hnil : ∀ as r, fn ([.nilp] :: as) = some r → run P Γ C A f ([.nilp] :: as) = some r) : SigOK P g ⟨.obj shp, false, ns, 0, fn⟩ := by
  subst hns
  refine ⟨fun w ok as vs v0 pl pA args r hok hlen tv hin hargs hr => runM_sound hΓ hC hm hg hb hok tv hin hargs (hfn vs as r hlen hr), fun w ok => pure_of_run hΓ hC hm hg hb (caps := []) (cv := []) ⟨rfl, fun i c v h => by simp at h⟩ rfl fun as r h => ?_⟩
  split at h
  · simpa using hnil _ r h
  · cases h
theorem runN_sound (hΓ : GOK P Γ) (hC : COK P C) (hm : P.follows .mixedOrders = true) {g : FuncId} {f : Func} (hg : P.funcs[g]? = some f) (hb : (match f.body with | some c => fnOK Γ A c | none => false) = true) {W : World} {OK : Nat → Prop} (hok : ∀ b, OK b → b < W.heap.size)
    {shp : List Sc} {as : List (List IV)} {args : List Value} (hargs : ArgsRel W OK as args) {r : List IV} (hr : runN P Γ C A shp f as = some r) :
    Calls P g args.toArray W fun e w' => ∃ v ok' pl pA, e = .returned v ∧ Below W.heap.size W w' ∧ (∀ b, OK b → ok' b) ∧ (∀ b, ok' b → OK b ∨ (W.heap.size ≤ b ∧ b < w'.heap.size)) ∧ ObjVal w' ok' shp r v pl pA ∧
        ∀ b, ObjLoc shp pl pA b → W.heap.size ≤ b ∧ b < w'.heap.size := by
  unfold runN at hr
  split at hr
  · rename_i c ps hc hps
    rw [hc] at hb
    obtain ⟨hl, hrel⟩ := initArgs_rel _ _ _ _ _ hps hargs.1 hargs.2
    refine calls_of_wp hg hc (top_sound (w0 := W) (ok0 := ⟨OK, fun _ => False⟩) hΓ hC hm c hb _ _ _ r hr (fun _ _ => rfl) _ W OK (fun _ => none) ⟨inv_nil hok _, fun _ _ => rfl, fr_args hl hrel f.ntmps⟩ _ fun e st' a' w' ok' mu' hk hcf hst => ?_)
    have done : (match f.results.toList with | [.tmp t] => (objT st'.h shp (st'.fr.getD t .undef)).map (·.1) | _ => none) = some r → a'.defers = [] ∧ ∃ v, (results f a'.tmps).run P w' = .ok v w' ∧ ∃ v_1 ok' pl pA, Ending.returned v = .returned v_1 ∧ Below W.heap.size W w' ∧ (∀ b, OK b → ok' b) ∧ (∀ b, ok' b → OK b ∨ (W.heap.size ≤ b ∧ b < w'.heap.size)) ∧ ObjVal w' ok' shp r v_1 pl pA ∧
        ∀ b, ObjLoc shp pl pA b → W.heap.size ≤ b ∧ b < w'.heap.size := by
      intro h
      split at h
      · rename_i t ht
        obtain ⟨⟨vs', os⟩, hp, rfl⟩ := Option.map_eq_some_iff.1 h
        have rp : RP w' ok' mu' (st'.fr.getD t .undef) (a'.tmps.getD t undef) := hcf.fr.ev (.tmp t)
        obtain ⟨_, q, hq, _⟩ := objT_rw hp
        rw [hq] at hp rp
        obtain ⟨pl, pA, hm2, tv, hlen', hrw, hqos, hA⟩ := objT_val hcf.inv hp rp
        have hres : (results f a'.tmps).run P w' = .ok (a'.tmps.getD t undef) w' := by
          have hm3 : (f.results.mapM (resSem a'.tmps)).run P w' = .ok #[a'.tmps.getD t undef] w' := by
            rw [Array.mapM_eq_mapM_toList, map_eq_pure_bind, ht]
            simp only [List.mapM_cons, List.mapM_nil, resSem, Sem.run_bind, Sem.run_pure, Result.andThen_ok]
          have hr2 : results f a'.tmps = (do let vs ← f.results.mapM (resSem a'.tmps); pure (if h : vs.size = 1 then vs[0] else .tuple vs)) := by
            unfold results
            congr 2
          rw [hr2, Sem.run_bind, hm3]
          rfl
        refine ⟨hst.defers, _, hres, _, ok', pl, pA, rfl, hcf.inv.below.below fun _ h => h, hst.later.keeps.more, fun b hb => ?_, tv, fun b hb => ?_⟩
        · rcases hcf.inv.okb b hb with h | h | h
          · exact .inl h
          · exact .inr ⟨h, hcf.inv.okw b hb⟩
          · exact h.elim
        · have key : ∀ k plq base, mu' k = some plq → plq.loc = some (b, base) → W.heap.size ≤ b ∧ b < w'.heap.size := fun k plq base h1 h2 => by
            obtain ⟨e1, e2, _⟩ := hcf.inv.own k plq b base h1 h2
            rcases e1 with e1 | e1
            · exact ⟨e1, e2⟩
            · exact e1.elim
          rcases hb with ⟨base, hb⟩ | hb
          · exact key q pl base hm2 hb
          · obtain ⟨k, _, _, plq, base, g1, g2⟩ := hA b hb
            exact key k plq base g1 g2
      · cases h
    cases e with
    | normal => exact done hk
    | exit j => cases hk
    | goto l => cases hk
    | ret => exact done hk
  · cases hr
theorem sig_mko (hΓ : GOK P Γ) (hC : COK P C) (hm : P.follows .mixedOrders = true) {g : FuncId} {f : Func} (hg : P.funcs[g]? = some f) (hb : (match f.body with | some c => fnOK Γ A c | none => false) = true)
    {ns : List Nat} {shp : List Sc} {fn : List (List IV) → Option (List IV)} (hfn : ∀ as r, fn as = some r → runN P Γ C A shp f as = some r) : SigOK P g ⟨.mko shp, false, ns, 0, fn⟩ :=
  fun w ok as args r hok hargs hr => runN_sound hΓ hC hm hg hb hok hargs (hfn as r hr)
theorem runI_sound (hΓ : GOK P Γ) (hC : COK P C) (hm : P.follows .mixedOrders = true) {g : FuncId} {f : Func} (hg : P.funcs[g]? = some f) (hb : (match f.body with | some c => fnOK Γ A c | none => false) = true) {W : World} {OK : Nat → Prop} (hok : ∀ b, OK b → b < W.heap.size)
    {sz : Nat} {x : IV} {v0 : Value} {pl : Pl} (hov : OwnVal W OK sz x v0 pl) (hno : ∀ b base, pl.loc = some (b, base) → ¬ OK b) (hin : ∀ b base, pl.loc = some (b, base) → b < W.heap.size)
    {as : List (List IV)} {args : List Value} (hargs : ArgsRel W OK as args) {r : List IV} (hr : runI P Γ C A sz f x as = some r) :
    Calls P g (v0 :: args).toArray W fun e w' => ∃ v, e = .returned v ∧ w'.os = W.os ∧ w'.tape = W.tape ∧ w'.output = W.output ∧ W.heap.size ≤ w'.heap.size ∧ Sizes W w' ∧
      (∀ b, b < W.heap.size → (∀ base, pl.loc ≠ some (b, base)) → w'.heap[b]? = W.heap[b]?) ∧ ∃ ok', (∀ b, OK b → ok' b) ∧ (∀ b, ok' b → OK b ∨ (W.heap.size ≤ b ∧ b < w'.heap.size)) ∧ ObOk w' ok' (fun _ => none) pl (.arr .rw sz (nth r 0)) := by
  unfold runI at hr
  split at hr
  · rename_i c ps hc hps
    rw [hc] at hb
    split at hr
    · rename_i hcond
      obtain ⟨hl, hrel⟩ := initArgs_rel _ _ _ _ _ hps hargs.1 hargs.2
      have hmu0 : (fun q : Nat => if q = 0 then some pl else none) 0 = some pl := by simp
      have hcase : ∀ q pq, (if q = 0 then some pl else none) = some pq → q = 0 ∧ pq = pl := fun q pq h => by
        split at h
        · cases h; exact ⟨‹_›, rfl⟩
        · cases h
      have hinv : Inv W ⟨OK, fun b => ∃ base, pl.loc = some (b, base)⟩ W OK (fun q => if q = 0 then some pl else none) [.arr .rw sz x] := by
        refine ⟨.refl _ _ _, hok, fun b hb => .inl hb, fun q pq h => ?_, fun q pq b base h hlq => ?_, fun q q' pq pq' b base base' h h' hlq hlq' _ _ => ?_⟩
        · obtain ⟨rfl, rfl⟩ := hcase q pq h
          exact hov.ob
        · obtain ⟨rfl, rfl⟩ := hcase q pq h
          exact ⟨.inr ⟨base, hlq⟩, hin b base hlq, fun _ _ => hno b base hlq⟩
        · rw [(hcase q pq h).1, (hcase q' pq' h').1]
      refine calls_of_wp hg hc (top_sound (w0 := W) (ok0 := ⟨OK, fun b => ∃ base, pl.loc = some (b, base)⟩) hΓ hC hm c hb _ _ _ r hr (fun _ _ => rfl) _ W OK (fun q => if q = 0 then some pl else none) ⟨hinv, fun q hq => ?_, fr_first (ownVal_rp hov hmu0) hl hrel f.ntmps⟩ _ fun e st' a' w' ok' mu' hk hcf hst => ?_)
      · simp at hq
        show (if q = 0 then some pl else none) = none
        rw [if_neg (by omega)]
      · have done : (match st'.fr.getD 0 .undef with | .buf o _ => (match getOb st'.h o with | .arr .rw sz' y => if sz' = sz then some [y] else none | _ => none) | _ => none) = some r → a'.defers = [] ∧ ∃ v, (results f a'.tmps).run P w' = .ok v w' ∧ ∃ v_1, Ending.returned v = .returned v_1 ∧ w'.os = W.os ∧ w'.tape = W.tape ∧ w'.output = W.output ∧ W.heap.size ≤ w'.heap.size ∧ Sizes W w' ∧
            (∀ b, b < W.heap.size → (∀ base, pl.loc ≠ some (b, base)) → w'.heap[b]? = W.heap[b]?) ∧ ∃ ok', (∀ b, OK b → ok' b) ∧ (∀ b, ok' b → OK b ∨ (W.heap.size ≤ b ∧ b < w'.heap.size)) ∧ ObOk w' ok' (fun _ => none) pl (.arr .rw sz (nth r 0)) := by
          intro h
          split at h
          · rename_i o l hfo
            split at h
            · rename_i sz' y hgy
              split at h
              · rename_i hsz
                subst hsz
                cases h
                have hv0' : a'.tmps.getD 0 undef = v0 := by
                  have := hst.same 0 (by simpa using hcond.2)
                  rw [Array.getD_eq_getD_getElem?, this]
                  exact first_get _ _ _
                have hrp : RP w' ok' mu' (.buf o l) v0 := by
                  have : RP w' ok' mu' (st'.fr.getD 0 .undef) (a'.tmps.getD 0 undef) := hcf.fr.ev (.tmp 0)
                  rwa [hv0', hfo] at this
                obtain ⟨A0, cap0, hv, hh0, hc0⟩ := hov.hdr
                rw [hv] at hrp
                cases hrp with
                | buf _ _ _ _ pl2 hm2 hn2 hh2 hc2 =>
                  have hob := hcf.inv.ob o pl2 hm2
                  rw [hgy] at hob
                  have hkey : pl.loc = pl2.loc ∨ (pl.len = 0 ∧ cap0 = 0) := by
                    rcases hh0.2 with h1 | ⟨b, base, h1, h2⟩
                    · exact .inr h1
                    · rcases hh2.2 with h3 | ⟨b', base', h3, h4⟩
                      · exact .inr h3
                      · left
                        rw [h2] at h4
                        simp only [Option.some.injEq, Addr.mk.injEq, Nat.zero_mul, Nat.add_zero] at h4
                        rw [h1, h3, h4.1, h4.2.1]
                  have hno' : ∀ b base, pl2.loc = some (b, base) → ¬ ok' b := fun b base hb => (hcf.inv.own o pl2 b base hm2 hb).2.2 (by rw [hgy]; rfl) (by rw [hgy]; rfl)
                  have harr2 := hob.arrC hc2
                  have hpos2 := hob.posC hc2
                  obtain ⟨p1, es0, p2, p3, _⟩ := hov.arr
                  obtain ⟨q1, es, q2, q3, q4, q5, q6⟩ := harr2
                  obtain ⟨v, k1, k2⟩ := results_of (P := P) (f := f) (tmps := a'.tmps) (w := w') (ok := ok') (r := []) (ns := []) (vs := []) (by
                    have : f.results.toList = [] := by rw [← List.length_eq_zero_iff]; simpa using hcond.1
                    rw [this]; rfl) rfl trivial
                  have hbel : ∀ b, b < W.heap.size → (∀ base, pl.loc ≠ some (b, base)) → w'.heap[b]? = W.heap[b]? := fun b hb h1 => hcf.inv.below.block b hb fun ⟨base, h⟩ => h1 base h
                  rcases hkey with hkey | ⟨hz1, hz2⟩
                  · refine ⟨hst.defers, v, k1, v, rfl, hcf.inv.below.os, hcf.inv.below.tape, hcf.inv.below.output, hcf.inv.below.size, hst.later.sizes, hbel, ok', hst.later.keeps.more, fun b hb => ?_, .inl ⟨hpos2, p1, es, q2, q3.trans hn2.symm, q4, by rw [hkey]; exact q5, by rw [hkey]; exact q6⟩⟩
                    rcases hcf.inv.okb b hb with h | h | ⟨base, h⟩
                    · exact .inl h
                    · exact .inr ⟨h, hcf.inv.okw b hb⟩
                    · exact absurd hb (hno' b base (hkey ▸ h))
                  · have hes : es = [] := List.length_eq_zero_iff.1 (by omega)
                    refine ⟨hst.defers, v, k1, v, rfl, hcf.inv.below.os, hcf.inv.below.tape, hcf.inv.below.output, hcf.inv.below.size, hst.later.sizes, hbel, OK, fun _ h => h, fun _ h => .inl h, .inl ⟨hpos2, p1, es, q2, by rw [hes]; simp [hz1], q4, fun _ => hes, fun b base hb => ?_⟩⟩
                    obtain ⟨c0, T0, h7, h8⟩ := hc0 b base hb
                    obtain ⟨c1, h9, h10⟩ := hst.later.sizes b c0 T0 h7
                    exact ⟨c1, T0, h9, by rw [hes]; simp; omega, fun i j e x he => by rw [hes] at he; simp at he⟩
              · cases h
            · cases h
          · cases h
        cases e with
        | normal => exact done hk
        | exit j => cases hk
        | goto l => cases hk
        | ret => exact done hk
    · cases hr
  · cases hr
theorem sig_inpl (hΓ : GOK P Γ) (hC : COK P C) (hm : P.follows .mixedOrders = true) {g : FuncId} {f : Func} (hg : P.funcs[g]? = some f) (hb : (match f.body with | some c => fnOK Γ A c | none => false) = true)
    {ns : List Nat} {sz : Nat} {fn : List (List IV) → Option (List IV)} (hfn : ∀ x as r, fn ([x] :: as) = some r → runI P Γ C A sz f x as = some r) : SigOK P g ⟨.inpl, false, ns, sz, fn⟩ :=
  fun w ok as x v0 pl args r hok hov hno hargs hr => runI_sound hΓ hC hm hg hb hok hov hno (fun b base hl => by
    obtain ⟨_, _, _, _, hc⟩ := hov.hdr
    obtain ⟨c, T, h1, _⟩ := hc b base hl
    exact (Array.getElem?_eq_some_iff.1 h1).1) hargs (hfn x as r hr)
theorem runO_sound (hΓ : GOK P Γ) (hC : COK P C) (hm : P.follows .mixedOrders = true) {g : FuncId} {f : Func} (hg : P.funcs[g]? = some f) (hb : (match f.body with | some c => fnOK Γ A c | none => false) = true) {W : World} {OK : Nat → Prop} (hok : ∀ b, OK b → b < W.heap.size)
    {sz : Nat} {as : List (List IV)} {args : List Value} (hargs : ArgsRel W OK as args) {r : List IV} (hr : runO P Γ C A sz f as = some r) :
    Calls P g args.toArray W fun e w' => ∃ v pl, e = .returned v ∧ Below W.heap.size W w' ∧ OwnVal w' (fun _ => False) sz (nth r 0) v pl ∧ ∀ b base, pl.loc = some (b, base) → W.heap.size ≤ b ∧ b < w'.heap.size := by
  unfold runO at hr
  split at hr
  · rename_i c ps hc hps
    rw [hc] at hb
    obtain ⟨hl, hrel⟩ := initArgs_rel _ _ _ _ _ hps hargs.1 hargs.2
    refine calls_of_wp hg hc (top_sound (w0 := W) (ok0 := ⟨OK, fun _ => False⟩) hΓ hC hm c hb _ _ _ r hr (fun _ _ => rfl) _ W OK (fun _ => none) ⟨⟨.refl _ _ _, hok, fun b hb => .inl hb, fun o pl ho => (by cases ho), fun o pl b base ho => (by cases ho), fun o o' pl pl' b base base' ho => (by cases ho)⟩, fun _ _ => rfl, fr_args hl hrel f.ntmps⟩ _ fun e st' a' w' ok' mu' hk hcf hst => ?_)
    have done : (match f.results.toList with | [.tmp t] => (innerT st'.h sz (st'.fr.getD t .undef)).bind fun p => if flatI p.1 = true then some [p.1] else none | _ => none) = some r → a'.defers = [] ∧ ∃ v, (results f a'.tmps).run P w' = .ok v w' ∧ ∃ v_1 pl, Ending.returned v = .returned v_1 ∧ Below W.heap.size W w' ∧ OwnVal w' (fun _ => False) sz (nth r 0) v_1 pl ∧ ∀ b base, pl.loc = some (b, base) → W.heap.size ≤ b ∧ b < w'.heap.size := by
      intro h
      split at h
      · rename_i t ht
        obtain ⟨⟨x, os⟩, hp, h2⟩ := Option.bind_eq_some_iff.1 h
        split at h2
        · rename_i hfl
          cases h2
          have rp : RP w' ok' mu' (st'.fr.getD t .undef) (a'.tmps.getD t undef) := hcf.fr.ev (.tmp t)
          obtain ⟨plA, k1, k2, k3, k4, k5⟩ := innerT_val hcf.inv hp rp
          have hres : (results f a'.tmps).run P w' = .ok (a'.tmps.getD t undef) w' := by
            have hm3 : (f.results.mapM (resSem a'.tmps)).run P w' = .ok #[a'.tmps.getD t undef] w' := by
              rw [Array.mapM_eq_mapM_toList, map_eq_pure_bind, ht]
              simp only [List.mapM_cons, List.mapM_nil, resSem, Sem.run_bind, Sem.run_pure, Result.andThen_ok]
            have hr2 : results f a'.tmps = (do let vs ← f.results.mapM (resSem a'.tmps); pure (if h : vs.size = 1 then vs[0] else .tuple vs)) := by
              unfold results
              congr 2
            rw [hr2, Sem.run_bind, hm3]
            rfl
          have rb := k3 (fun q => if q = 0 then some plA else none) 0 (by simp)
          refine ⟨hst.defers, _, hres, _, plA, rfl, hcf.inv.below.below fun _ h => h, ⟨.inl ⟨k1, ?_⟩, ?_⟩, fun b base hb => ?_⟩
          · obtain ⟨q1, es, q2, q3, q4, q5, q6⟩ := k2
            have hx : x = .lst es := q2
            subst hx
            refine ⟨q1, es, rfl, q3, q4, q5, fun b base hb => ?_⟩
            obtain ⟨cc, T, q7, q8, q9⟩ := q6 b base hb
            refine ⟨cc, T, q7, q8, fun i j e y he hy => ?_⟩
            obtain ⟨u, q10, q11⟩ := q9 i j e y he hy
            refine ⟨u, q10, q11.scalar ?_⟩
            have h1 := List.all_eq_true.1 hfl e (List.mem_of_getElem? he)
            exact List.all_eq_true.1 h1 y (List.mem_of_getElem? hy)
          · generalize a'.tmps.getD t undef = v at rb
            obtain ⟨_, es, q2, q3, _⟩ := k2
            have hx : x = .lst es := q2
            have hll : llen x = plA.len := by rw [hx]; exact q3
            cases rb with
            | buf _ _ A cap pl' hm hn hh hc =>
              simp at hm; subst hm
              rw [hll] at hh ⊢
              exact ⟨A, cap, rfl, hh, hc⟩
          · obtain ⟨q, hq⟩ := List.exists_mem_of_ne_nil _ (k5 b base hb)
            obtain ⟨_, plq, g1, g2⟩ := k4 q hq
            obtain ⟨e1, e2, _⟩ := hcf.inv.own q plq b base g1 (g2.trans hb)
            rcases e1 with e1 | e1
            · exact ⟨e1, e2⟩
            · exact e1.elim
        · cases h2
      · cases h
    cases e with
    | normal => exact done hk
    | exit j => cases hk
    | goto l => cases hk
    | ret => exact done hk
  · cases hr
theorem sig_fresh (hΓ : GOK P Γ) (hC : COK P C) (hm : P.follows .mixedOrders = true) {g : FuncId} {f : Func} (hg : P.funcs[g]? = some f) (hb : (match f.body with | some c => fnOK Γ A c | none => false) = true)
    {ns : List Nat} {sz : Nat} {fn : List (List IV) → Option (List IV)} (hfn : ∀ as r, fn as = some r → runO P Γ C A sz f as = some r) : SigOK P g ⟨.fresh, false, ns, sz, fn⟩ :=
  fun w ok as args r hok hargs hr => runO_sound hΓ hC hm hg hb hok hargs (hfn as r hr)
end
/-- What is the callee's to give away is also just handed back. -/
theorem pure_of_own {P : Program} {g : FuncId} {sc : Bool} {esz : Nat} {ns : List Nat} {fn fn' : List (List IV) → Option (List IV)} (h : SigOK P g ⟨.own, sc, ns, esz, fn⟩) (hfn : ∀ as r, fn' as = some r → fn as = some r) : SigOK P g ⟨.pure, false, [1], 0, fn'⟩ := by
  refine ⟨fun W OK w ok as args r _ hok hargs hr => ?_, fun h => by cases h⟩
  rw [List.append_nil]
  refine Calls.mono (h w ok as args r hok hargs (hfn as r hr)) fun e w' he => ?_
  obtain ⟨v, pl, rfl, hb, hov, hloc⟩ := he
  refine ⟨v, rfl, hb, .inl ⟨rfl, ?_⟩⟩
  have iq : InvQ w' ok (fun q => if q = 0 then some pl else none) [.arr .rw esz (nth r 0)] := by
    have hcase : ∀ q pq, (if q = 0 then some pl else none) = some pq → q = 0 ∧ pq = pl := fun q pq h => by
      split at h
      · cases h; exact ⟨‹_›, rfl⟩
      · cases h
    refine ⟨fun b hb' => Nat.lt_of_lt_of_le (hok b hb') hb.size, fun q pq hq => ?_, fun q pq b base hq hl => ?_⟩
    · obtain ⟨rfl, rfl⟩ := hcase q pq hq; exact hov.ob
    · obtain ⟨rfl, rfl⟩ := hcase q pq hq; exact (hloc b base hl).2
  refine (toIV_rv iq 5 (.buf 0 (llen (nth r 0))) (nth r 0) v rfl (ownVal_rp hov (by simp))).more fun b hb' => ?_
  rcases hb' with hb' | ⟨q, _, pq, base, h1, h2⟩
  · exact .inl hb'
  · simp at h1
    obtain ⟨_, rfl⟩ := h1
    exact .inr (hloc b base h2)
end Go.AM

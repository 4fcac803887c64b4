/- The rows: arguments as pure values; a law that is true of all typed pure values holds as it is said. -/
import Derived.Test.YtmmacbkganjkbaaAc
import Derived.ProofKit
import Derived.Deep.Slices
import Derived.Carry
import Derived.OpenShut
set_option linter.unusedVariables false
set_option linter.unusedSimpArgs false
namespace Go.AM
open Go.RowKit Go.ChangeShapes Go.WideShapes Go.Deep

/-- A cell's shape. -/
inductive Sh where
  | bool
  | int (k : IntKind)
  | flt (k : FloatKind)
  | str
  | slc (l : List Sh)
  deriving Inhabited
inductive ShOK : Sh → IV → Prop
  | bool (b : Bool) : ShOK .bool (.bool b)
  | int (k : IntKind) (n : Int) (h : (Lit.int k n).wf = true) : ShOK (.int k) (.int k n)
  | flt (k : FloatKind) (n : Nat) (h : (Lit.float k n).wf = true) : ShOK (.flt k) (.flt k n)
  | str (s : ByteArray) (h : s.size ≤ maxLen) : ShOK .str (.str s)
  | slc (l : List Sh) (es : List (List IV)) (h : es.length ≤ maxLen) (h1 : ∀ e ∈ es, e.length = l.length) (h2 : ∀ (i j : Nat) (e : List IV) (c : IV) (s : Sh), es[i]? = some e → e[j]? = some c → l[j]? = some s → ShOK s c) : ShOK (.slc l) (.lst es)
/-- Cells of these shapes. -/
def Typed (l : List Sh) (cs : List IV) : Prop := cs.length = l.length ∧ ∀ (j : Nat) (s : Sh) (c : IV), l[j]? = some s → cs[j]? = some c → ShOK s c

def shFields (sh : TypeId → Option (List Sh)) (size : TypeId → Nat) : List Field → Nat → Option (List Sh × Nat)
  | [], off => some ([], off)
  | f :: fs, off => if f.offset = off then (sh f.type).bind fun l => if l.length = size f.type then (shFields sh size fs (off + l.length)).map fun p => (l ++ p.1, p.2) else none else none
/-- The shapes of a type's cells. -/
def shapes (P : Program) : Nat → TypeId → Option (List Sh)
  | 0, _ => none
  | n + 1, t =>
    match P.underlying t with
    | some .bool => some [.bool]
    | some (.int k) => some [.int k]
    | some (.float k) => some [.flt k]
    | some .string => some [.str]
    | some (.slice e) => (shapes P n e).bind fun l => if l.length = P.cellsOf e then some [.slc l] else none
    | some (.struct fs) => (shFields (shapes P n) P.cellsOf fs.toList 0).bind fun p => if p.2 = P.cellsOf t then some p.1 else none
    | some (.array m e) => (shapes P n e).bind fun l => if l.length = P.cellsOf e ∧ P.cellsOf t = m * P.cellsOf e then some ((List.replicate m l).flatten) else none
    | _ => none

/-- Pure values of cells. -/
def CellsRel (w : World) (ok : Nat → Prop) (ivs : List IV) (cs : List Value) : Prop := ivs.length = cs.length ∧ ∀ (j : Nat) (c : IV) (v : Value), ivs[j]? = some c → cs[j]? = some v → RV w ok c v
theorem CellsRel.one {w : World} {ok : Nat → Prop} {c : IV} {v : Value} (h : RV w ok c v) : CellsRel w ok [c] [v] := ⟨rfl, fun j x u h1 h2 => by
  cases j with
  | zero => cases h1; cases h2; exact h
  | succ j => simp at h1⟩
theorem Typed.one {s : Sh} {c : IV} (h : ShOK s c) : Typed [s] [c] := ⟨rfl, fun j x u h1 h2 => by
  cases j with
  | zero => cases h1; cases h2; exact h
  | succ j => simp at h1⟩
theorem CellsRel.append {w : World} {ok : Nat → Prop} {a b : List IV} {x y : List Value} (h : CellsRel w ok a x) (k : CellsRel w ok b y) : CellsRel w ok (a ++ b) (x ++ y) := by
  refine ⟨by simp [h.1, k.1], fun j c v h1 h2 => ?_⟩
  by_cases hj : j < a.length
  · rw [List.getElem?_append_left hj] at h1
    rw [List.getElem?_append_left (by rw [← h.1]; exact hj)] at h2
    exact h.2 j c v h1 h2
  · rw [List.getElem?_append_right (by omega)] at h1
    rw [List.getElem?_append_right (by rw [← h.1]; omega), ← h.1] at h2
    exact k.2 _ c v h1 h2
theorem Typed.append {a b : List Sh} {x y : List IV} (h : Typed a x) (k : Typed b y) : Typed (a ++ b) (x ++ y) := by
  refine ⟨by simp [h.1, k.1], fun j c v h1 h2 => ?_⟩
  by_cases hj : j < a.length
  · rw [List.getElem?_append_left hj] at h1
    rw [List.getElem?_append_left (by rw [h.1]; exact hj)] at h2
    exact h.2 j c v h1 h2
  · rw [List.getElem?_append_right (by omega)] at h1
    rw [List.getElem?_append_right (by rw [h.1]; omega), h.1] at h2
    exact k.2 _ c v h1 h2

section
variable {H : Type} {enc : TypeId × Value → H} {P : Program} {w : World} {base : Nat} {spare : Nat → Bool} {held : Bool}
/-- What is read is a pure value of its type's shapes. -/
theorem pure_of_trod : ∀ (m : Nat) (t : TypeId) (l : List Sh), shapes P m t = some l → ∀ (fuel : Nat) (cs : List Value) (x : DataW H × List MemPlace), DataW.trod enc P w base spare held fuel t cs = some x →
    ∃ ivs, Typed l ivs ∧ CellsRel w (fun b => b < w.heap.size) ivs cs
  | 0, t, l, hl => by simp [shapes] at hl
  | m + 1, t, l, hl => by
    intro fuel cs x h
    unfold shapes at hl
    have step : ∀ {n : Nat}, fuel = n + 1 → DataW.trodStep enc P w base spare held (DataW.trod enc P w base spare held n) t cs = some x := fun e => by subst e; exact h
    obtain ⟨n, rfl⟩ : ∃ n, fuel = n + 1 := by
      cases fuel with
      | zero => simp [DataW.trod] at h
      | succ n => exact ⟨n, rfl⟩
    have hs := step rfl
    split at hl
    · rename_i hu
      cases hl
      unfold DataW.trodStep at hs
      rw [hu] at hs
      split at hs <;> simp_all
      rename_i b
      exact ⟨[.bool b], .one (.bool b), .one (.bool b)⟩
    · rename_i k hu
      cases hl
      unfold DataW.trodStep at hs
      rw [hu] at hs
      split at hs <;> simp_all
      rename_i k' n' _
      obtain ⟨⟨rfl, hw⟩, _⟩ := hs
      exact ⟨[.int _ n'], .one (.int _ n' hw), .one (.int _ n')⟩
    · rename_i k hu
      cases hl
      unfold DataW.trodStep at hs
      rw [hu] at hs
      split at hs <;> simp_all
      rename_i k' n' _
      obtain ⟨⟨rfl, hw⟩, _⟩ := hs
      exact ⟨[.flt _ n'], .one (.flt _ n' hw), .one (.flt _ n')⟩
    · rename_i hu
      cases hl
      unfold DataW.trodStep at hs
      rw [hu] at hs
      split at hs <;> simp_all
      rename_i s
      exact ⟨[.str s], .one (.str s hs.1), .one (.str s)⟩
    · rename_i e hu
      obtain ⟨le, he, hl⟩ := Option.bind_eq_some_iff.1 hl
      split at hl
      · rename_i hsz
        cases hl
        rcases open_slice hu h with ⟨rfl, _⟩ | ⟨a, len, cap, m', n', D, Pl, rfl, hb, hlc, hcm, hm, hx, hi⟩
        · exact ⟨[.lst []], .one (.slc le [] (Nat.zero_le _) (fun e he => by simp at he) fun i j e c s h => by simp at h),
            .one (.lst [] none 0 le.length (fun _ _ => .nilFunc) (Nat.le_refl _) (fun e he => by simp at he) (fun i j hi => by simp at hi) fun i j e c h => by simp at h)⟩
        · have hlen : len ≤ m' := by rw [hm]; split <;> omega
          have key : ∀ i, i < len → ∃ (ivs : List IV) (cs' : List Value), w.cells? base (a.add (i * P.cellsOf e)) (P.cellsOf e) = some cs' ∧ Typed le ivs ∧ CellsRel w (fun b => b < w.heap.size) ivs cs' := fun i hil => by
            obtain ⟨cs', hc, ht⟩ := hi i (by omega)
            obtain ⟨ivs, h1, h2⟩ := pure_of_trod m e le he _ _ _ ht
            exact ⟨ivs, cs', hc, h1, h2⟩
          have key2 : ∃ (F : Nat → List IV) (G : Nat → List Value), ∀ i, i < len → w.cells? base (a.add (i * P.cellsOf e)) (P.cellsOf e) = some (G i) ∧ Typed le (F i) ∧ CellsRel w (fun b => b < w.heap.size) (F i) (G i) := by
            refine ⟨fun i => if h : i < len then (key i h).choose else [], fun i => if h : i < len then (key i h).choose_spec.choose else [], fun i hil => ?_⟩
            simp only [hil, dif_pos]
            exact (key i hil).choose_spec.choose_spec
          obtain ⟨F, G, hFG⟩ := key2
          have hcell : ∀ i j, i < len → j < le.length → w.cell? (a.add (i * le.length + j)) = some ((G i).getD j .nilIface) ∧ a.block < w.heap.size := fun i j hil hj => by
            obtain ⟨h1, h2, h3⟩ := hFG i hil
            obtain ⟨_, h4, h5⟩ := World.cells?_some h1
            have h6 := h5 j (by omega)
            rw [add_add, ← hsz] at h6
            have h7 : (G i)[j]? = some ((G i).getD j .nilIface) := by
              rw [List.getD_eq_getElem?_getD, List.getElem?_eq_getElem (by rw [h4]; omega)]; rfl
            rw [h7] at h6
            refine ⟨h6, ?_⟩
            unfold World.cell? at h6
            rw [add_block] at h6
            cases hx : w.heap[a.block]? with
            | none => rw [hx] at h6; cases h6
            | some _ => exact (Array.getElem?_eq_some_iff.1 hx).1
          have hget : ∀ (i : Nat) (e' : List IV), ((List.range len).map F)[i]? = some e' → i < len ∧ e' = F i := fun i e' hi' => by
            rw [List.getElem?_map] at hi'
            have hil : i < len := by
              rcases Nat.lt_or_ge i len with h | h
              · exact h
              · rw [List.getElem?_eq_none (by simpa using h)] at hi'; cases hi'
            rw [List.getElem?_range hil] at hi'
            cases hi'
            exact ⟨hil, rfl⟩
          have hall : ∀ e' ∈ (List.range len).map F, e'.length = le.length := fun e' he' => by
            obtain ⟨i, hi', rfl⟩ := List.mem_map.1 he'
            exact (hFG i (List.mem_range.1 hi')).2.1.1
          refine ⟨[.lst ((List.range len).map F)], .one (.slc le _ (by simp; omega) hall fun i j e' c s h1 h2 h3 => ?_), .one ?_⟩
          · obtain ⟨hil, rfl⟩ := hget i e' h1
            exact (hFG i hil).2.1.2 j s c h3 h2
          · have hll : ((List.range len).map F).length = len := by simp
            have hrv : RV w (fun b => b < w.heap.size) (.lst ((List.range len).map F)) (.slice (some a) ((List.range len).map F).length cap) := by
              refine .lst _ (some a) cap le.length (fun i j => (G i).getD j .nilIface) (by rw [hll]; exact hlc) hall (fun i j hi' hj => ?_) fun i j e' c h1 h2 => ?_
              · rw [hll] at hi'
                obtain ⟨h1, h2⟩ := hcell i j hi' hj
                exact ⟨a, rfl, h2, h1⟩
              · obtain ⟨hil, rfl⟩ := hget i e' h1
                obtain ⟨h3, h4, h5⟩ := hFG i hil
                refine h5.2 j c _ h2 ?_
                have : j < (G i).length := by rw [← h5.1]; exact (List.getElem?_eq_some_iff.1 h2).1
                rw [List.getD_eq_getElem?_getD, List.getElem?_eq_getElem this]; rfl
            rw [hll] at hrv
            exact hrv
      · cases hl
    · rename_i fs hu
      obtain ⟨p, hp, hl⟩ := Option.bind_eq_some_iff.1 hl
      split at hl
      · rename_i hpt
        cases hl
        obtain ⟨ys, n', hn', hy, hlen, hyl, hf⟩ := DataW.trod_struct hu h
        have go : ∀ (L : List Field) (off : Nat) (q : List Sh × Nat), shFields (shapes P m) P.cellsOf L off = some q → q.2 = cs.length → (∀ f ∈ L, ∃ y, DataW.trod enc P w base spare held n' f.type ((cs.drop f.offset).take (P.cellsOf f.type)) = some y) →
            ∃ ivs, Typed q.1 ivs ∧ CellsRel w (fun b => b < w.heap.size) ivs (cs.drop off) := by
          intro L
          induction L with
          | nil =>
            intro off q hq hql _
            simp only [shFields, Option.some.injEq] at hq
            subst hq
            simp only at hql
            subst hql
            exact ⟨[], ⟨rfl, fun j s c h => by simp at h⟩, by simp [CellsRel]⟩
          | cons f L ih =>
            intro off q hq hql hall
            simp only [shFields] at hq
            split at hq
            · rename_i hoff
              obtain ⟨lf, h1, hq⟩ := Option.bind_eq_some_iff.1 hq
              split at hq
              · rename_i hlf
                obtain ⟨q2, h2, rfl⟩ := Option.map_eq_some_iff.1 hq
                obtain ⟨y, hy2⟩ := hall f List.mem_cons_self
                obtain ⟨iv1, g1, g2⟩ := pure_of_trod m f.type lf h1 _ _ _ hy2
                obtain ⟨iv2, g3, g4⟩ := ih (off + lf.length) q2 h2 hql fun f' hf' => hall f' (List.mem_cons_of_mem _ hf')
                refine ⟨iv1 ++ iv2, g1.append g3, ?_⟩
                have := g2.append g4
                rw [hoff, ← hlf, ← List.drop_drop, List.take_append_drop] at this
                exact this
              · cases hq
            · cases hq
        have := go fs.toList 0 p hp (by rw [hpt, hlen]) fun f hf' => by
          obtain ⟨i, hi'⟩ := List.getElem?_of_mem hf'
          have hi2 : fs[i]? = some f := by rw [← Array.getElem?_toList]; exact hi'
          have h1 := hf i f hi2
          have h2 : i < ys.length := by rw [hyl]; exact (Array.getElem?_eq_some_iff.1 hi2).1
          exact ⟨ys[i], by rw [h1, List.getElem?_eq_getElem h2]⟩
        simpa using this
      · cases hl
    · rename_i k e hu
      obtain ⟨le, he, hl⟩ := Option.bind_eq_some_iff.1 hl
      split at hl
      · rename_i hsz
        cases hl
        obtain ⟨ys, n', hn', hy, hlen, hyl, hf⟩ := DataW.trod_array hu h
        have go : ∀ r, r ≤ k → ∃ ivs, Typed ((List.replicate r le).flatten) ivs ∧ CellsRel w (fun b => b < w.heap.size) ivs (cs.drop ((k - r) * P.cellsOf e)) := by
          intro r
          induction r with
          | zero =>
            intro _
            have : cs.drop ((k - 0) * P.cellsOf e) = [] := List.drop_eq_nil_of_le (by rw [hlen, hsz.2, Nat.sub_zero]; exact Nat.le_refl _)
            rw [this]
            exact ⟨[], ⟨rfl, fun j s c h => by simp at h⟩, ⟨rfl, fun j c v h => by simp at h⟩⟩
          | succ r ih =>
            intro hr
            obtain ⟨iv2, g3, g4⟩ := ih (by omega)
            have hi : k - (r + 1) < k := by omega
            have h1 := hf (k - (r + 1)) hi
            rw [List.getElem?_eq_getElem (by omega)] at h1
            obtain ⟨iv1, g1, g2⟩ := pure_of_trod m e le he _ _ _ h1
            refine ⟨iv1 ++ iv2, by rw [List.replicate_succ, List.flatten_cons]; exact g1.append g3, ?_⟩
            have := g2.append g4
            rw [show (k - r) * P.cellsOf e = (k - (r + 1)) * P.cellsOf e + P.cellsOf e by rw [← Nat.succ_mul]; congr 1; omega, ← List.drop_drop, List.take_append_drop] at this
            exact this
        have := go k (Nat.le_refl _)
        simpa using this
      · cases hl
    · cases hl

theorem okWide_cells {r : Reach} {b0 : Nat} {t : TypeId} {v : Value} (hv : Value.okWide P w r b0 t v) : (∃ fs, P.underlying t = some (.struct fs) ∧ ∃ cs, v = .agg cs ∧ cs.size = P.cellsOf t) ∨ (∃ n e, P.underlying t = some (.array n e) ∧ ∃ cs, v = .agg cs ∧ cs.size = P.cellsOf t) ∨ v.cells.toList = [v] := by
  unfold Value.okWide at hv
  split at hv
  · rename_i fs hu
    obtain ⟨cs, h1, h2, _⟩ := hv
    exact .inl ⟨fs, hu, cs, h1, h2⟩
  · rename_i n e hu
    obtain ⟨cs, h1, h2, _⟩ := hv
    exact .inr (.inl ⟨n, e, hu, cs, h1, h2⟩)
  · refine .inr (.inr ?_)
    cases v with
    | agg cs =>
      exfalso
      unfold Cell.okWide at hv
      split at hv <;> simp_all [Cell.ok]
    | _ => rfl

/-- One argument. -/
theorem arg_of_trod {r : Reach} {b0 m : Nat} {t : TypeId} {l : List Sh} (hl : shapes P m t = some l) (hone : l.length = 1 → isAggT P t = false) (hpos : 0 < l.length) {v : Value} {d : DataW H} {p : List MemPlace} (hv : Value.okWide P w r b0 t v) (h : DataW.Trod enc P w base spare held t v d p) :
    ∃ ivs, Typed l ivs ∧ ArgRel w (fun b => b < w.heap.size) ivs v := by
  obtain ⟨fuel, hf⟩ := h
  obtain ⟨ivs, h1, h2⟩ := pure_of_trod m t l hl _ _ _ hf
  refine ⟨ivs, h1, ?_⟩
  rcases okWide_cells hv with ⟨fs, hu, cs, rfl, hs⟩ | ⟨n, e, hu, cs, rfl, hs⟩ | hc
  · refine .inr ⟨?_, cs, rfl, ?_, fun i x u hx hu' => h2.2 i x u hx ?_⟩
    · rw [h1.1]
      have : l.length ≠ 1 := fun h => by have := hone h; unfold isAggT at this; rw [hu] at this; cases this
      omega
    · have := h2.1; simp [Value.cells] at this; exact this.symm
    · simp only [Value.cells, Array.getElem?_toList]; exact hu'
  · refine .inr ⟨?_, cs, rfl, ?_, fun i x u hx hu' => h2.2 i x u hx ?_⟩
    · rw [h1.1]
      have : l.length ≠ 1 := fun h => by have := hone h; unfold isAggT at this; rw [hu] at this; cases this
      omega
    · have := h2.1; simp [Value.cells] at this; exact this.symm
    · simp only [Value.cells, Array.getElem?_toList]; exact hu'
  · rw [hc] at h2
    match ivs, h2 with
    | [x], h2 => exact .inl ⟨x, rfl, h2.2 0 x v rfl rfl⟩
    | [], h2 => exact absurd h2.1 (by simp)
    | _ :: _ :: _, h2 => exact absurd h2.1 (by simp)
end

/-- The shapes of parameters. -/
def shapesAll (P : Program) : List TypeId → Option (List (List Sh))
  | [] => some []
  | t :: ts => (shapes P 12 t).bind fun l => if 0 < l.length ∧ (l.length = 1 → isAggT P t = false) then (shapesAll P ts).map (l :: ·) else none
inductive TypedAll : List (List Sh) → List (List IV) → Prop
  | nil : TypedAll [] []
  | cons {l : List Sh} {ls : List (List Sh)} {c : List IV} {cs : List (List IV)} (h : Typed l c) (t : TypedAll ls cs) : TypedAll (l :: ls) (c :: cs)
section
variable {H : Type} {enc : TypeId × Value → H} {P : Program} {w : World} {base : Nat} {spare : Nat → Bool} {held : Bool}
theorem args_of_trod {r : Reach} {b0 : Nat} : ∀ (ts : List TypeId) (L : List (List Sh)), shapesAll P ts = some L → ∀ (vs : List Value) (ds : List (DataW H)) (ps : List MemPlace), (∀ (j : Nat) t v, ts[j]? = some t → vs[j]? = some v → Value.okWide P w r b0 t v) →
    DataW.TrodAll enc P w base spare held ts vs ds ps → ∃ as, TypedAll L as ∧ ArgsRel w (fun b => b < w.heap.size) as vs ∧ ds.length = ts.length
  | [], L, hL, vs, ds, ps, _, h => by
    cases hL
    obtain ⟨rfl, rfl, rfl⟩ := trodAll_nil h
    exact ⟨[], .nil, ⟨rfl, fun i c v h => by simp at h⟩, rfl⟩
  | t :: ts, L, hL, vs, ds, ps, hv, h => by
    simp only [shapesAll] at hL
    obtain ⟨l, h1, hL⟩ := Option.bind_eq_some_iff.1 hL
    split at hL
    · rename_i hc
      obtain ⟨L', h2, rfl⟩ := Option.map_eq_some_iff.1 hL
      obtain ⟨v, vs1, d, ds1, a, b, rfl, rfl, rfl, h3, h4⟩ := trodAll_cons h
      obtain ⟨c, g1, g2⟩ := arg_of_trod h1 hc.2 hc.1 (hv 0 t v rfl rfl) h3
      obtain ⟨as, g3, g4, g5⟩ := args_of_trod ts L' h2 vs1 ds1 b (fun j t' v' hj1 hj2 => hv (j + 1) t' v' (by simpa using hj1) (by simpa using hj2)) h4
      refine ⟨c :: as, .cons g1 g3, ⟨by simp [g4.1], fun i c' v' hi hj => ?_⟩, by simp [g5]⟩
      cases i with
      | zero => cases hi; cases hj; exact g2
      | succ i => exact g4.2 i c' v' (by simpa using hi) (by simpa using hj)
    · cases hL
end

/-- The call of a law, as its row asks. -/
theorem law_post {H : Type} {enc : TypeId × Value → H} {P : Program} {g : FuncId} {fn : Func} {s : ChangeSpec} {fnl : List (List IV) → Option (List IV)} {L : List (List Sh)} {tb : TypeId} (hsig : SigOK P g ⟨.pure, true, [1], 0, fnl⟩) (hvars : s.vars = [])
    (hres : fn.resultTypes = #[tb]) (hb : P.underlying tb = some .bool) (hL : shapesAll P fn.params.toList = some L) (hlaid : laidOutB P = true) (hrows : fn.params.toList.all (fun t => P.readableRec t && decide (t < P.types.size)) = true)
    (hspec : ∀ (H : Type) (ds : List (DataW H)), ds.length = fn.params.toList.length → s.fn H ds = { results := [.lit (.bool true)], args := ds }) (hlaw : ∀ as, TypedAll L as → fnl as = some [.bool true])
    {W : World} {base : Nat} {args : Array Value} {ds gs : List (DataW H)} {before : List MemPlace} (hval : ∀ (j : Nat) t v, fn.params[j]? = some t → args[j]? = some v → Value.okWide P W .any base t v) (hW : DataW.Whole enc P fn.params.toList s.vars false W args.toList ds gs before) :
    Calls P g args W fun e W' => ∃ v, e = .returned v ∧ s.post enc P fn false true false false W args v W' := by
  have hW' := hW
  obtain ⟨p, q, hA, hV, rfl, hfz, hnd⟩ := hW
  rw [hvars] at hV
  obtain ⟨rfl, rfl⟩ := trodVars_none hV
  obtain ⟨as, h1, h2, h3⟩ := args_of_trod fn.params.toList L hL args.toList ds p (fun j t v hj1 hj2 => hval j t v (by rw [← Array.getElem?_toList]; exact hj1) (by rw [← Array.getElem?_toList]; exact hj2)) hA
  have hc := hsig.1 W (fun b => b < W.heap.size) W (fun b => b < W.heap.size) as args.toList _ (.refl _ _) (fun _ h => h) h2 (hlaw as h1)
  simp only [List.append_nil, Array.toArray_toList] at hc
  refine hc.mono fun e W' he => ?_
  obtain ⟨v, rfl, hbel, hr⟩ := he
  have hv : v = .bool true := by
    rcases hr with ⟨_, h⟩ | ⟨h, _⟩
    · cases h; rfl
    · omega
  subst hv
  have hlt := hW'.lt
  have hargs : ∀ (ts : List TypeId) (vs : List Value) (ds : List (DataW H)) (ps : List MemPlace), ts.all (fun t => P.readableRec t && decide (t < P.types.size)) = true → DataW.TrodAll enc P W 0 (fun _ => true) true ts vs ds ps → (∀ x ∈ ps, x.block < W.heap.size) →
      DataW.TrodAll enc P W' 0 (fun b => decide (b < W.heap.size)) true ts vs ds ps := by
    intro ts
    induction ts with
    | nil =>
      intro vs ds ps _ h _
      obtain ⟨rfl, rfl, rfl⟩ := trodAll_nil h
      rfl
    | cons t ts ih =>
      intro vs ds ps hr h hlt
      obtain ⟨v, vs1, d, ds1, a, b, rfl, rfl, rfl, h3, h4⟩ := trodAll_cons h
      simp only [List.all_cons, Bool.and_eq_true, decide_eq_true_eq] at hr
      exact ⟨a, b, Below.trod hlaid hr.1.1 hr.1.2 h3 hbel fun x hx => hlt x (List.mem_append_left _ hx), ih vs1 ds1 b hr.2 h4 fun x hx => hlt x (List.mem_append_right _ hx), rfl⟩
  have hsp := hspec H ds h3
  refine ⟨_, rfl, ds, [], p ++ [], [], p, [], hW', ?_, ?_, ?_, hbel.frame _, fun h => by cases h⟩
  · rw [List.append_nil, hsp, hres]
    exact ⟨[], [], ⟨0 + 1, by
      rw [DataW.trod_step]
      unfold DataW.trodStep
      rw [hb]; rfl⟩, rfl, rfl⟩
  · rw [List.append_nil, hsp]
    exact hargs _ _ _ _ hrows hA fun x hx => hlt x (by simpa using hx)
  · rw [List.append_nil, hsp, hvars]
    exact rfl
end Go.AM

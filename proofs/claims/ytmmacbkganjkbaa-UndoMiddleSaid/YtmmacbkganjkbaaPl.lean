/- Plain lemmas on the abstract machine's operations and loops. -/
import Derived.Test.YtmmacbkganjkbaaAa
set_option linter.unusedVariables false
set_option linter.unusedSimpArgs false
namespace Go.AM

@[simp] theorem nth_zero (x : IV) (l : List IV) : nth (x :: l) 0 = x := rfl
@[simp] theorem nth_succ (x : IV) (l : List IV) (n : Nat) : nth (x :: l) (n + 1) = nth l n := by simp [nth]
@[simp] theorem nth_one (x y : IV) (l : List IV) : nth (x :: y :: l) 1 = y := rfl
@[simp] theorem nth_two (x y z : IV) (l : List IV) : nth (x :: y :: z :: l) 2 = z := rfl
@[simp] theorem nth_three (x y z a : IV) (l : List IV) : nth (x :: y :: z :: a :: l) 3 = a := rfl
@[simp] theorem nth_four (x y z a b : IV) (l : List IV) : nth (x :: y :: z :: a :: b :: l) 4 = b := rfl
@[simp] theorem nth_five (x y z a b c : IV) (l : List IV) : nth (x :: y :: z :: a :: b :: c :: l) 5 = c := rfl
@[simp] theorem nth_six (x y z a b c d : IV) (l : List IV) : nth (x :: y :: z :: a :: b :: c :: d :: l) 6 = d := rfl
@[simp] theorem nth_seven (x y z a b c d e : IV) (l : List IV) : nth (x :: y :: z :: a :: b :: c :: d :: e :: l) 7 = e := rfl

@[simp] theorem icond_true {R : Type} (t e : Unit → Option R) : icond (.bool true) t e = t () := rfl
@[simp] theorem icond_false {R : Type} (t e : Unit → Option R) : icond (.bool false) t e = e () := rfl
theorem icond_dec {R : Type} (p : Prop) [Decidable p] (t e : Unit → Option R) : icond (.bool (decide p)) t e = if p then t () else e () := by
  by_cases h : p <;> simp [h, icond]
theorem icond_bool {R : Type} (b : Bool) (t e : Unit → Option R) : icond (.bool b) t e = if b = true then t () else e () := by cases b <;> rfl

@[simp] theorem ibin_lss (k : IntKind) (a b : Int) : ibin .lss (.int k a) (.int k b) = some (.bool (decide (a < b))) := by simp [ibin, ibinInt]
@[simp] theorem ibin_leq (k : IntKind) (a b : Int) : ibin .leq (.int k a) (.int k b) = some (.bool (decide (a ≤ b))) := by simp [ibin, ibinInt]
@[simp] theorem ibin_gtr (k : IntKind) (a b : Int) : ibin .gtr (.int k a) (.int k b) = some (.bool (decide (b < a))) := by simp [ibin, ibinInt]
@[simp] theorem ibin_geq (k : IntKind) (a b : Int) : ibin .geq (.int k a) (.int k b) = some (.bool (decide (b ≤ a))) := by simp [ibin, ibinInt]
@[simp] theorem ibin_eql (k : IntKind) (a b : Int) : ibin .eql (.int k a) (.int k b) = some (.bool (decide (a = b))) := by
  simp only [ibin, ibinInt, if_true]; congr 2
@[simp] theorem ibin_neq (k : IntKind) (a b : Int) : ibin .neq (.int k a) (.int k b) = some (.bool (decide (a ≠ b))) := by
  simp only [ibin, ibinInt, if_true, bne]
  congr 2
  by_cases h : a = b <;> simp [h]
@[simp] theorem ibinB_eql (a b : Bool) : ibinB .eql (.bool a) (.bool b) = some (.bool (a == b)) := rfl
@[simp] theorem ibinB_neq (a b : Bool) : ibinB .neq (.bool a) (.bool b) = some (.bool !(a == b)) := rfl
@[simp] theorem iun_not (b : Bool) : iun .not (.bool b) = some (.bool !b) := rfl
theorem wrap64 {a : Int} (h1 : -(2 ^ 63) ≤ a) (h2 : a < 2 ^ 63) : IntKind.i64.wrap a = a := by
  rw [IntKind.wrap_i64]; omega
theorem ibin_add {a b : Int} (h1 : -(2 ^ 63) ≤ a + b) (h2 : a + b < 2 ^ 63) : ibin .add (.int .i64 a) (.int .i64 b) = some (.int .i64 (a + b)) := by
  simp only [ibin, ibinInt, if_true, wrap64 h1 h2]
theorem ibin_sub {a b : Int} (h1 : -(2 ^ 63) ≤ a - b) (h2 : a - b < 2 ^ 63) : ibin .sub (.int .i64 a) (.int .i64 b) = some (.int .i64 (a - b)) := by
  simp only [ibin, ibinInt, if_true, wrap64 h1 h2]
/-- An index and the one behind it. -/
theorem ibin_succ {i : Nat} (h : i < 2 ^ 62) : ibin .add (.int .i64 (i : Int)) (.int .i64 1) = some (.int .i64 ((i + 1 : Nat) : Int)) := by
  rw [ibin_add (by omega) (by omega)]; rfl
theorem ibin_pred {i : Nat} (h : i < 2 ^ 62) (h0 : 0 < i) : ibin .sub (.int .i64 (i : Int)) (.int .i64 1) = some (.int .i64 ((i - 1 : Nat) : Int)) := by
  rw [ibin_sub (by omega) (by omega)]
  congr 2; omega
@[simp] theorem imax_ii (k : IntKind) (a b : Int) : imax (.int k a) (.int k b) = some (.int k (max a b)) := by
  simp only [imax, if_true]
  congr 2
  simp only [Int.max_def]
  split <;> split <;> omega
@[simp] theorem imin_ii (k : IntKind) (a b : Int) : imin (.int k a) (.int k b) = some (.int k (min a b)) := by
  simp only [imin, if_true]
  congr 2
  simp only [Int.min_def]
  split <;> split <;> omega
@[simp] theorem ilenL_lst (es : List (List IV)) : ilenL (.lst es) = some (.int .i64 es.length) := rfl
@[simp] theorem ilenS_str (s : ByteArray) : ilenS (.str s) = some (.int .i64 s.size) := rfl
@[simp] theorem llen_lst (es : List (List IV)) : llen (.lst es) = es.length := rfl
@[simp] theorem lsub_lst' (es : List (List IV)) (l h : Nat) : lsub (.lst es) l h = .lst ((es.drop l).take (h - l)) := rfl
@[simp] theorem scal_nil : scal [] = some [] := rfl
@[simp] theorem scal_bool (b : Bool) (l : List IV) : scal (.bool b :: l) = (scal l).map (.bool b :: ·) := by
  simp only [scal, List.all_cons, IV.scalar, Bool.true_and]; split <;> rfl
@[simp] theorem scal_int (k : IntKind) (n : Int) (l : List IV) : scal (.int k n :: l) = (scal l).map (.int k n :: ·) := by
  simp only [scal, List.all_cons, IV.scalar, Bool.true_and]; split <;> rfl
@[simp] theorem scal_flt (k : FloatKind) (n : Nat) (l : List IV) : scal (.flt k n :: l) = (scal l).map (.flt k n :: ·) := by
  simp only [scal, List.all_cons, IV.scalar, Bool.true_and]; split <;> rfl
@[simp] theorem scal_str (s : ByteArray) (l : List IV) : scal (.str s :: l) = (scal l).map (.str s :: ·) := by
  simp only [scal, List.all_cons, IV.scalar, Bool.true_and]; split <;> rfl
@[simp] theorem sel_zero {R : Type} (x : Option R) (l : List (Option R)) : sel 0 (x :: l) = x := rfl
@[simp] theorem sel_one {R : Type} (x y : Option R) (l : List (Option R)) : sel 1 (x :: y :: l) = y := rfl
@[simp] theorem sel_two {R : Type} (x y z : Option R) (l : List (Option R)) : sel 2 (x :: y :: z :: l) = z := rfl

/-! ### Elements -/
theorem iidx_map {α : Type} {enc : α → List IV} {l : List α} {i : Nat} {x : α} {sz : Nat} (h : l[i]? = some x) (hs : (enc x).length = sz) (hp : 0 < sz) : iidx (.lst (l.map enc)) (.int .i64 (i : Int)) sz = some i := by
  have hi : i < l.length := (List.getElem?_eq_some_iff.1 h).1
  simp only [iidx]
  rw [if_pos]
  · simp
  · refine ⟨by omega, by simp; omega, ?_, hp⟩
    simp only [Int.toNat_natCast, List.getD_eq_getElem?_getD, List.getElem?_map, h, Option.map_some, Option.getD_some, hs]
theorem ildN_map {α : Type} {enc : α → List IV} {l : List α} {i : Nat} {x : α} {sz : Nat} (h : l[i]? = some x) (hs : (enc x).length = sz) : ildN (.lst (l.map enc)) i 0 sz = some (enc x) := by
  simp only [ildN, List.getElem?_map, h, Option.map_some, Option.bind_some, Nat.zero_add, List.drop_zero]
  rw [if_pos (by omega), ← hs, List.take_length]
theorem ild_map {α : Type} {enc : α → List IV} {l : List α} {i j : Nat} {x : α} (h : l[i]? = some x) : ild (.lst (l.map enc)) i j = (enc x)[j]? := by
  simp only [ild, List.getElem?_map, h, Option.map_some, Option.bind_some]
theorem ibidx_lt {n i : Nat} {k : IntKind} (h : i < n) : ibidx n (.int k (i : Int)) = some i := by
  simp only [ibidx]
  rw [if_pos (by omega)]; simp

/-! ### Loops -/
/-- A loop through a list. -/
def runL {α σ : Type} (step : Nat → σ → α → σ ⊕ (Nat × List IV)) (out : σ → Nat × List IV) : List α → Nat → σ → Nat × List IV
  | [], _, s => out s
  | x :: xs, i, s => match step i s x with | .inl s' => runL step out xs (i + 1) s' | .inr p => p
theorem iter_list {α σ : Type} {f : List IV → Option SR} {enc : Nat → σ → List IV} {step : Nat → σ → α → σ ⊕ (Nat × List IV)} {out : σ → Nat × List IV} (I : Nat → σ → Prop) (l : List α)
    (hs : ∀ i s x, l[i]? = some x → I i s → (∀ s', step i s x = .inl s' → I (i + 1) s') ∧ f (enc i s) = some (match step i s x with | .inl s' => .next (enc (i + 1) s') | .inr p => .done p.1 p.2))
    (he : ∀ s, I l.length s → f (enc l.length s) = some (.done (out s).1 (out s).2)) :
    ∀ (n k : Nat) (s : σ), k ≤ l.length → l.length - k < n → I k s → iter n f (enc k s) = some (runL step out (l.drop k) k s)
  | 0, k, s, _, h, _ => by omega
  | n + 1, k, s, hk, hn, hI => by
    by_cases h : k = l.length
    · subst h
      simp only [iter, he s hI, Option.bind_some, List.drop_length, runL]
    · have hlt : k < l.length := by omega
      have hx : l[k]? = some l[k] := List.getElem?_eq_getElem hlt
      obtain ⟨h1, h2⟩ := hs k s l[k] hx hI
      rw [List.drop_eq_getElem_cons hlt]
      simp only [iter, h2, Option.bind_some, runL]
      cases hst : step k s l[k] with
      | inl s' => exact iter_list I l hs he n (k + 1) s' (by omega) (by omega) (h1 s' hst)
      | inr p => rfl
theorem iter_for {α σ : Type} {f : List IV → Option SR} {vs0 : List IV} (enc : Nat → σ → List IV) (step : Nat → σ → α → σ ⊕ (Nat × List IV)) (out : σ → Nat × List IV) (I : Nat → σ → Prop) (l : List α) (s : σ) (h0 : vs0 = enc 0 s) (hl : l.length < rounds) (hI : I 0 s)
    (hs : ∀ i s x, l[i]? = some x → I i s → (∀ s', step i s x = .inl s' → I (i + 1) s') ∧ f (enc i s) = some (match step i s x with | .inl s' => .next (enc (i + 1) s') | .inr p => .done p.1 p.2))
    (he : ∀ s, I l.length s → f (enc l.length s) = some (.done (out s).1 (out s).2)) : iter rounds f vs0 = some (runL step out l 0 s) := by
  subst h0
  have := iter_list I l hs he rounds 0 s (Nat.zero_le _) (by omega) hI
  simpa using this
/-- A loop that looks for one. -/
theorem iter_search {α : Type} {f : List IV → Option SR} {vs0 : List IV} (enc : Nat → List IV) (p : α → Bool) (kh : Nat) (hit : Nat → List IV) (km : Nat) (miss : List IV) (l : List α) (h0 : vs0 = enc 0) (hl : l.length < rounds)
    (hs : ∀ i x, l[i]? = some x → f (enc i) = some (if p x = true then .done kh (hit i) else .next (enc (i + 1)))) (he : f (enc l.length) = some (.done km miss)) :
    iter rounds f vs0 = some (match l.findIdx? p with | some i => (kh, hit i) | none => (km, miss)) := by
  rw [iter_for (vs0 := vs0) (fun i (_ : Unit) => enc i) (fun i _ x => if p x = true then .inr (kh, hit i) else .inl ()) (fun _ => (km, miss)) (fun _ _ => True) l () h0 hl trivial (fun i s x hx _ => ⟨fun _ _ => trivial, by rw [hs i x hx]; split <;> rfl⟩) (fun _ _ => he)]
  have key : ∀ (l : List α) (k : Nat), runL (fun i (_ : Unit) x => if p x = true then .inr (kh, hit i) else .inl ()) (fun _ => (km, miss)) l k () = match l.findIdx? p with | some i => (kh, hit (k + i)) | none => (km, miss) := by
    intro l
    induction l with
    | nil => intro k; rfl
    | cons x l ih =>
      intro k
      simp only [runL, List.findIdx?_cons]
      by_cases h : p x = true
      · simp [h]
      · simp only [h, if_false, Bool.false_eq_true]
        rw [ih]
        cases l.findIdx? p with
        | none => rfl
        | some i => simp; congr 1; omega
  rw [key l 0]
  cases l.findIdx? p <;> simp
/-- Is one bad, by its place? -/
def anyI {α : Type} (bad : Nat → α → Bool) : List α → Nat → Bool
  | [], _ => false
  | x :: l, k => bad k x || anyI bad l (k + 1)
theorem anyI_true {α : Type} {bad : Nat → α → Bool} : ∀ {l : List α} {k : Nat}, anyI bad l k = true ↔ ∃ i x, l[i]? = some x ∧ bad (k + i) x = true
  | [], k => by simp [anyI]
  | y :: l, k => by
    simp only [anyI, Bool.or_eq_true]
    rw [anyI_true]
    constructor
    · rintro (h | ⟨i, x, h1, h2⟩)
      · exact ⟨0, y, rfl, h⟩
      · exact ⟨i + 1, x, by simpa using h1, by rw [← h2]; congr 1; omega⟩
    · rintro ⟨i, x, h1, h2⟩
      cases i with
      | zero => cases h1; exact .inl h2
      | succ i => exact .inr ⟨i, x, by simpa using h1, by rw [← h2]; congr 1; omega⟩
theorem anyI_false {α : Type} {bad : Nat → α → Bool} {l : List α} {k : Nat} : anyI bad l k = false ↔ ∀ i x, l[i]? = some x → bad (k + i) x = false := by
  rw [← Bool.not_eq_true, anyI_true]
  constructor
  · intro h i x hx
    rw [← Bool.not_eq_true]
    exact fun hb => h ⟨i, x, hx, hb⟩
  · rintro h ⟨i, x, hx, hb⟩
    rw [h i x hx] at hb; cases hb
theorem anyI_any {α : Type} {p : α → Bool} : ∀ {l : List α} {k : Nat}, anyI (fun _ x => p x) l k = l.any p
  | [], _ => rfl
  | x :: l, k => by simp only [anyI, List.any_cons, anyI_any]
/-- A loop that ends at the first that is bad. -/
theorem iter_check {α : Type} {f : List IV → Option SR} {vs0 : List IV} (enc : Nat → List IV) (bad : Nat → α → Bool) (kh : Nat) (hit : List IV) (km : Nat) (miss : List IV) (l : List α) (h0 : vs0 = enc 0) (hl : l.length < rounds)
    (hs : ∀ i x, l[i]? = some x → f (enc i) = some (if bad i x = true then .done kh hit else .next (enc (i + 1)))) (he : f (enc l.length) = some (.done km miss)) :
    iter rounds f vs0 = some (if anyI bad l 0 = true then (kh, hit) else (km, miss)) := by
  rw [iter_for (vs0 := vs0) (fun i (_ : Unit) => enc i) (fun i _ x => if bad i x = true then .inr (kh, hit) else .inl ()) (fun _ => (km, miss)) (fun _ _ => True) l () h0 hl trivial (fun i s x hx _ => ⟨fun _ _ => trivial, by rw [hs i x hx]; split <;> rfl⟩) (fun _ _ => he)]
  have key : ∀ (l : List α) (k : Nat), runL (fun i (_ : Unit) x => if bad i x = true then .inr (kh, hit) else .inl ()) (fun _ => (km, miss)) l k () = if anyI bad l k = true then (kh, hit) else (km, miss) := by
    intro l
    induction l with
    | nil => intro k; rfl
    | cons x l ih =>
      intro k
      simp only [runL, anyI]
      by_cases h : bad k x = true
      · simp [h]
      · simp only [h, if_false, Bool.false_eq_true, Bool.false_or]
        exact ih (k + 1)
  rw [key l 0]
/-- A loop that gathers. -/
theorem iter_fold {α σ : Type} {f : List IV → Option SR} {vs0 : List IV} (enc : Nat → σ → List IV) (g : σ → α → σ) (km : Nat) (out : σ → List IV) (I : Nat → σ → Prop) (l : List α) (s : σ) (h0 : vs0 = enc 0 s) (hl : l.length < rounds) (hI : I 0 s)
    (hs : ∀ i s x, l[i]? = some x → I i s → I (i + 1) (g s x) ∧ f (enc i s) = some (.next (enc (i + 1) (g s x)))) (he : ∀ s, I l.length s → f (enc l.length s) = some (.done km (out s))) :
    iter rounds f vs0 = some (km, out (l.foldl g s)) := by
  rw [iter_for (vs0 := vs0) enc (fun _ s x => .inl (g s x)) (fun s => (km, out s)) I l s h0 hl hI (fun i s x hx hI => ⟨fun s' e => by cases e; exact (hs i s x hx hI).1, (hs i s x hx hI).2⟩) he]
  congr 1
  have key : ∀ (l : List α) (k : Nat) (s : σ), runL (fun _ s x => .inl (g s x)) (fun s => (km, out s)) l k s = (km, out (l.foldl g s)) := by
    intro l
    induction l with
    | nil => intro k s; rfl
    | cons x l ih => intro k s; exact ih (k + 1) (g s x)
  exact key l 0 s
/-- A loop with a measure. -/
theorem iter_wf {f : List IV → Option SR} (I : List IV → Prop) (μ : List IV → Nat) (Q : Nat → List IV → Prop)
    (h : ∀ vs, I vs → (∃ vs', f vs = some (.next vs') ∧ I vs' ∧ μ vs' < μ vs) ∨ ∃ k o, f vs = some (.done k o) ∧ Q k o) : ∀ (n : Nat) (vs : List IV), I vs → μ vs < n → ∃ k o, iter n f vs = some (k, o) ∧ Q k o
  | 0, vs, _, hn => by omega
  | n + 1, vs, hI, hn => by
    rcases h vs hI with ⟨vs', h1, h2, h3⟩ | ⟨k, o, h1, h2⟩
    · obtain ⟨k, o, h4, h5⟩ := iter_wf I μ Q h n vs' h2 (by omega)
      exact ⟨k, o, by simp only [iter, h1, Option.bind_some, h4], h5⟩
    · exact ⟨k, o, by simp only [iter, h1, Option.bind_some], h2⟩
end Go.AM

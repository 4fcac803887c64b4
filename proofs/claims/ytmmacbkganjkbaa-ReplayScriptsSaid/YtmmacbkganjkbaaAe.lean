/- What the functions that are walked by hand hand back, on pure values. -/
import Derived.Test.YtmmacbkganjkbaaAa
import Derived.Below
import Derived.Shelf.Spec.SlicesInsert
import Derived.Sort.LotA
import Derived.Test.YtmmacbkganjkbaaAd
import Derived.RangeFuncBox
import Derived.RangeFuncLeaves
import Derived.RangeFuncWrites
import Derived.Shelf.Abstract
import Derived.WalkKit
import Derived.OwnWalkIn
import Derived.TacticsInMore
import Derived.LoopNIn
import Derived.LoopIn
import Derived.Maps.OwnIn
import Derived.Test.YtmmacbkganjkbaaAc
set_option linter.unusedVariables false
namespace Go.AM
open Go.RowKit

/-- What lies first at a key; the keys, once each. -/
def lkp (ps : List (Int × Int)) (k : Int) : Option Int := (ps.find? fun p => p.1 == k).map (·.2)
def ksof (ps : List (Int × Int)) : List Int := ps.foldl (fun l p => if l.contains p.1 then l else l ++ [p.1]) []
/-- The way up from a node, of so many steps at most. -/
def upto (f : Int → Option Int) : Nat → Int → List Int
  | 0, _ => []
  | n + 1, x => match f x with | none => [] | some y => y :: upto f n y

/-! ### What the functions walked by hand hand back -/
/-- A row's node and parent. -/
def rowI : List IV → Option (Int × Int)
  | [.int .i64 c, .int .i64 p, .str _, .flt .f64 _] => if (Lit.int .i64 c).wf = true ∧ (Lit.int .i64 p).wf = true then some (c, p) else none
  | _ => none
def aboveS (x a b : IV) : Option (List IV) :=
  match x, a, b with
  | .lst es, .int .i64 a, .int .i64 b => if es.length ≤ 2 ^ 40 ∧ (Lit.int .i64 b).wf = true then (es.mapM rowI).map fun ps => [.bool ((upto (lkp ps) (ksof ps).length b).contains a)] else none
  | _, _, _ => none
/-- A step's cells. -/
structure StepV where
  (i0 i1 i2 i3 : Int) (s4 : ByteArray) (f5 : Nat) (b6 b7 : Bool) (i8 i9 : Int) (s10 : ByteArray) (f11 : Nat)
  deriving Inhabited
def StepV.vals (s : StepV) : Array Value := #[.int .i64 s.i0, .int .i64 s.i1, .int .i64 s.i2, .int .i64 s.i3, .string s.s4, .float .f64 s.f5, .bool s.b6, .bool s.b7, .int .i64 s.i8, .int .i64 s.i9, .string s.s10, .float .f64 s.f11]
def StepV.ivs (s : StepV) : List IV := [.int .i64 s.i0, .int .i64 s.i1, .int .i64 s.i2, .int .i64 s.i3, .str s.s4, .flt .f64 s.f5, .bool s.b6, .bool s.b7, .int .i64 s.i8, .int .i64 s.i9, .str s.s10, .flt .f64 s.f11]
/-- What slices.Delete hands back. -/
def deleteS (x i j : IV) : Option (List IV) :=
  match x, i, j with
  | .lst es, .int .i64 i, .int .i64 j => if 0 ≤ i ∧ i ≤ j ∧ j ≤ (es.length : Int) ∧ es.length ≤ 2 ^ 40 then some [.lst (es.take i.toNat ++ es.drop j.toNat)] else none
  | _, _, _ => none
/-! ### Sets of nodes -/
/-- A move in memory: its time, parent, child, and what else it holds. -/
structure MvAt where
  (c r par ch : Int) (nm : ByteArray) (rk : Nat)
def atI (l : List Int) (n : Int) : Nat := (l.findIdx? fun x => !decide (x < n)).getD l.length
def putI (l : List Int) (n : Int) : List Int := if l[atI l n]? = some n then l else l.take (atI l n) ++ [n] ++ l.drop (atI l n)
/-! ### What tree.May tells -/
/-- Are all well so far, and do the nodes rise? -/
def risesQ (ob : Nat → Bool) : List (Int × Int) → Nat → Bool
  | [], _ => true
  | [_], i => ob i
  | p :: q :: l, i => ob i && (decide (p.1 < q.1) && risesQ ob (q :: l) (i + 1))
def mayQ (ob : Nat → Bool) (ps : List (Int × Int)) : Bool :=
  decide (ps.length ≤ 2000) && (risesQ ob ps 0 && (ksof ps).all fun c => !(upto (lkp ps) (ksof ps).length c).contains c)
def oneB (O : List (List IV) → Option (List IV)) (e : List IV) : Option Bool := match O [e] with | some [.bool b] => some b | _ => none
def mayS (O : List (List IV) → Option (List IV)) (x : IV) : Option (List IV) :=
  match x with
  | .lst es => if es.length ≤ 2 ^ 40 then (es.mapM rowI).bind fun ps => (es.mapM (oneB O)).map fun bs => [.bool (mayQ (fun i => bs.getD i false) ps)] else none
  | _ => none
/-- What a reference’s tree tells: one of two results of a run. -/
def run16S (f : IV → IV → Option (List IV)) (k : Nat) : IV → IV → Option (List IV)
  | .lst a, .lst b => (f (.lst a) (.lst b)).map fun r => [nth r k]
  | _, _ => none
end Go.AM
/- Sorting that keeps the order of equals, plainly: lists. -/
set_option linter.unusedVariables false
set_option linter.unusedSimpArgs false
namespace Go.AM
open Go.Sort
section
variable {α : Type} (lt : α → α → Bool)
end
variable {α : Type} {lt : α → α → Bool}
end Go.AM

/- What sorting a row of structs hands back, on pure values. -/
set_option linter.unusedVariables false
namespace Go.AM
/-- A row of a tree, as cells. -/
structure Rv where
  ch : Int
  par : Int
  nm : ByteArray
  rk : Nat
  ok : rk < 2 ^ 64
instance : Inhabited Rv := ⟨⟨0, 0, default, 0, by decide⟩⟩
end Go.AM

/- Plain lemmas on the abstract machine's operations and loops. -/
set_option linter.unusedVariables false
set_option linter.unusedSimpArgs false
namespace Go.AM

@[simp] theorem nth_zero (x : IV) (l : List IV) : nth (x :: l) 0 = x := rfl
@[simp] theorem nth_succ (x : IV) (l : List IV) (n : Nat) : nth (x :: l) (n + 1) = nth l n := by simp [nth]
@[simp] theorem nth_one (x y : IV) (l : List IV) : nth (x :: y :: l) 1 = y := rfl
@[simp] theorem nth_two (x y z : IV) (l : List IV) : nth (x :: y :: z :: l) 2 = z := rfl
@[simp] theorem nth_three (x y z a : IV) (l : List IV) : nth (x :: y :: z :: a :: l) 3 = a := rfl
@[simp] theorem nth_four (x y z a b : IV) (l : List IV) : nth (x :: y :: z :: a :: b :: l) 4 = b := rfl
@[simp] theorem nth_five (x y z a b c : IV) (l : List IV) : nth (x :: y :: z :: a :: b :: c :: l) 5 = c := rfl
@[simp] theorem nth_six (x y z a b c d : IV) (l : List IV) : nth (x :: y :: z :: a :: b :: c :: d :: l) 6 = d := rfl
@[simp] theorem nth_seven (x y z a b c d e : IV) (l : List IV) : nth (x :: y :: z :: a :: b :: c :: d :: e :: l) 7 = e := rfl

@[simp] theorem icond_true {R : Type} (t e : Unit → Option R) : icond (.bool true) t e = t () := rfl
@[simp] theorem icond_false {R : Type} (t e : Unit → Option R) : icond (.bool false) t e = e () := rfl
theorem icond_dec {R : Type} (p : Prop) [Decidable p] (t e : Unit → Option R) : icond (.bool (decide p)) t e = if p then t () else e () := by
  by_cases h : p <;> simp [h, icond]
theorem icond_bool {R : Type} (b : Bool) (t e : Unit → Option R) : icond (.bool b) t e = if b = true then t () else e () := by cases b <;> rfl

@[simp] theorem ibin_lss (k : IntKind) (a b : Int) : ibin .lss (.int k a) (.int k b) = some (.bool (decide (a < b))) := by simp [ibin, ibinInt]
@[simp] theorem ibin_leq (k : IntKind) (a b : Int) : ibin .leq (.int k a) (.int k b) = some (.bool (decide (a ≤ b))) := by simp [ibin, ibinInt]
@[simp] theorem ibin_gtr (k : IntKind) (a b : Int) : ibin .gtr (.int k a) (.int k b) = some (.bool (decide (b < a))) := by simp [ibin, ibinInt]
@[simp] theorem ibin_geq (k : IntKind) (a b : Int) : ibin .geq (.int k a) (.int k b) = some (.bool (decide (b ≤ a))) := by simp [ibin, ibinInt]
@[simp] theorem ibin_eql (k : IntKind) (a b : Int) : ibin .eql (.int k a) (.int k b) = some (.bool (decide (a = b))) := by
  simp only [ibin, ibinInt, if_true]; congr 2
@[simp] theorem ibin_neq (k : IntKind) (a b : Int) : ibin .neq (.int k a) (.int k b) = some (.bool (decide (a ≠ b))) := by
  simp only [ibin, ibinInt, if_true, bne]
  congr 2
  by_cases h : a = b <;> simp [h]
@[simp] theorem ibinB_eql (a b : Bool) : ibinB .eql (.bool a) (.bool b) = some (.bool (a == b)) := rfl
@[simp] theorem ibinB_neq (a b : Bool) : ibinB .neq (.bool a) (.bool b) = some (.bool !(a == b)) := rfl
@[simp] theorem iun_not (b : Bool) : iun .not (.bool b) = some (.bool !b) := rfl
theorem wrap64 {a : Int} (h1 : -(2 ^ 63) ≤ a) (h2 : a < 2 ^ 63) : IntKind.i64.wrap a = a := by
  rw [IntKind.wrap_i64]; omega
theorem ibin_add {a b : Int} (h1 : -(2 ^ 63) ≤ a + b) (h2 : a + b < 2 ^ 63) : ibin .add (.int .i64 a) (.int .i64 b) = some (.int .i64 (a + b)) := by
  simp only [ibin, ibinInt, if_true, wrap64 h1 h2]
theorem ibin_sub {a b : Int} (h1 : -(2 ^ 63) ≤ a - b) (h2 : a - b < 2 ^ 63) : ibin .sub (.int .i64 a) (.int .i64 b) = some (.int .i64 (a - b)) := by
  simp only [ibin, ibinInt, if_true, wrap64 h1 h2]
/-- An index and the one behind it. -/
theorem ibin_succ {i : Nat} (h : i < 2 ^ 62) : ibin .add (.int .i64 (i : Int)) (.int .i64 1) = some (.int .i64 ((i + 1 : Nat) : Int)) := by
  rw [ibin_add (by omega) (by omega)]; rfl
theorem ibin_pred {i : Nat} (h : i < 2 ^ 62) (h0 : 0 < i) : ibin .sub (.int .i64 (i : Int)) (.int .i64 1) = some (.int .i64 ((i - 1 : Nat) : Int)) := by
  rw [ibin_sub (by omega) (by omega)]
  congr 2; omega
@[simp] theorem imax_ii (k : IntKind) (a b : Int) : imax (.int k a) (.int k b) = some (.int k (max a b)) := by
  simp only [imax, if_true]
  congr 2
  simp only [Int.max_def]
  split <;> split <;> omega
@[simp] theorem imin_ii (k : IntKind) (a b : Int) : imin (.int k a) (.int k b) = some (.int k (min a b)) := by
  simp only [imin, if_true]
  congr 2
  simp only [Int.min_def]
  split <;> split <;> omega
@[simp] theorem ilenL_lst (es : List (List IV)) : ilenL (.lst es) = some (.int .i64 es.length) := rfl
@[simp] theorem ilenS_str (s : ByteArray) : ilenS (.str s) = some (.int .i64 s.size) := rfl
@[simp] theorem llen_lst (es : List (List IV)) : llen (.lst es) = es.length := rfl
@[simp] theorem lsub_lst' (es : List (List IV)) (l h : Nat) : lsub (.lst es) l h = .lst ((es.drop l).take (h - l)) := rfl
@[simp] theorem scal_nil : scal [] = some [] := rfl
@[simp] theorem scal_bool (b : Bool) (l : List IV) : scal (.bool b :: l) = (scal l).map (.bool b :: ·) := by
  simp only [scal, List.all_cons, IV.scalar, Bool.true_and]; split <;> rfl
@[simp] theorem scal_int (k : IntKind) (n : Int) (l : List IV) : scal (.int k n :: l) = (scal l).map (.int k n :: ·) := by
  simp only [scal, List.all_cons, IV.scalar, Bool.true_and]; split <;> rfl
@[simp] theorem scal_flt (k : FloatKind) (n : Nat) (l : List IV) : scal (.flt k n :: l) = (scal l).map (.flt k n :: ·) := by
  simp only [scal, List.all_cons, IV.scalar, Bool.true_and]; split <;> rfl
@[simp] theorem scal_str (s : ByteArray) (l : List IV) : scal (.str s :: l) = (scal l).map (.str s :: ·) := by
  simp only [scal, List.all_cons, IV.scalar, Bool.true_and]; split <;> rfl
@[simp] theorem sel_zero {R : Type} (x : Option R) (l : List (Option R)) : sel 0 (x :: l) = x := rfl
@[simp] theorem sel_one {R : Type} (x y : Option R) (l : List (Option R)) : sel 1 (x :: y :: l) = y := rfl
@[simp] theorem sel_two {R : Type} (x y z : Option R) (l : List (Option R)) : sel 2 (x :: y :: z :: l) = z := rfl

/-! ### Elements -/
theorem iidx_map {α : Type} {enc : α → List IV} {l : List α} {i : Nat} {x : α} {sz : Nat} (h : l[i]? = some x) (hs : (enc x).length = sz) (hp : 0 < sz) : iidx (.lst (l.map enc)) (.int .i64 (i : Int)) sz = some i := by
  have hi : i < l.length := (List.getElem?_eq_some_iff.1 h).1
  simp only [iidx]
  rw [if_pos]
  · simp
  · refine ⟨by omega, by simp; omega, ?_, hp⟩
    simp only [Int.toNat_natCast, List.getD_eq_getElem?_getD, List.getElem?_map, h, Option.map_some, Option.getD_some, hs]
theorem ildN_map {α : Type} {enc : α → List IV} {l : List α} {i : Nat} {x : α} {sz : Nat} (h : l[i]? = some x) (hs : (enc x).length = sz) : ildN (.lst (l.map enc)) i 0 sz = some (enc x) := by
  simp only [ildN, List.getElem?_map, h, Option.map_some, Option.bind_some, Nat.zero_add, List.drop_zero]
  rw [if_pos (by omega), ← hs, List.take_length]
theorem ild_map {α : Type} {enc : α → List IV} {l : List α} {i j : Nat} {x : α} (h : l[i]? = some x) : ild (.lst (l.map enc)) i j = (enc x)[j]? := by
  simp only [ild, List.getElem?_map, h, Option.map_some, Option.bind_some]
theorem ibidx_lt {n i : Nat} {k : IntKind} (h : i < n) : ibidx n (.int k (i : Int)) = some i := by
  simp only [ibidx]
  rw [if_pos (by omega)]; simp

/-! ### Loops -/
/-- A loop through a list. -/
def runL {α σ : Type} (step : Nat → σ → α → σ ⊕ (Nat × List IV)) (out : σ → Nat × List IV) : List α → Nat → σ → Nat × List IV
  | [], _, s => out s
  | x :: xs, i, s => match step i s x with | .inl s' => runL step out xs (i + 1) s' | .inr p => p
theorem iter_list {α σ : Type} {f : List IV → Option SR} {enc : Nat → σ → List IV} {step : Nat → σ → α → σ ⊕ (Nat × List IV)} {out : σ → Nat × List IV} (I : Nat → σ → Prop) (l : List α)
    (hs : ∀ i s x, l[i]? = some x → I i s → (∀ s', step i s x = .inl s' → I (i + 1) s') ∧ f (enc i s) = some (match step i s x with | .inl s' => .next (enc (i + 1) s') | .inr p => .done p.1 p.2))
    (he : ∀ s, I l.length s → f (enc l.length s) = some (.done (out s).1 (out s).2)) :
    ∀ (n k : Nat) (s : σ), k ≤ l.length → l.length - k < n → I k s → iter n f (enc k s) = some (runL step out (l.drop k) k s)
  | 0, k, s, _, h, _ => by omega
  | n + 1, k, s, hk, hn, hI => by
    by_cases h : k = l.length
    · subst h
      simp only [iter, he s hI, Option.bind_some, List.drop_length, runL]
    · have hlt : k < l.length := by omega
      have hx : l[k]? = some l[k] := List.getElem?_eq_getElem hlt
      obtain ⟨h1, h2⟩ := hs k s l[k] hx hI
      rw [List.drop_eq_getElem_cons hlt]
      simp only [iter, h2, Option.bind_some, runL]
      cases hst : step k s l[k] with
      | inl s' => exact iter_list I l hs he n (k + 1) s' (by omega) (by omega) (h1 s' hst)
      | inr p => rfl
theorem iter_for {α σ : Type} {f : List IV → Option SR} {vs0 : List IV} (enc : Nat → σ → List IV) (step : Nat → σ → α → σ ⊕ (Nat × List IV)) (out : σ → Nat × List IV) (I : Nat → σ → Prop) (l : List α) (s : σ) (h0 : vs0 = enc 0 s) (hl : l.length < rounds) (hI : I 0 s)
    (hs : ∀ i s x, l[i]? = some x → I i s → (∀ s', step i s x = .inl s' → I (i + 1) s') ∧ f (enc i s) = some (match step i s x with | .inl s' => .next (enc (i + 1) s') | .inr p => .done p.1 p.2))
    (he : ∀ s, I l.length s → f (enc l.length s) = some (.done (out s).1 (out s).2)) : iter rounds f vs0 = some (runL step out l 0 s) := by
  subst h0
  have := iter_list I l hs he rounds 0 s (Nat.zero_le _) (by omega) hI
  simpa using this
/-- A loop that looks for one. -/
theorem iter_search {α : Type} {f : List IV → Option SR} {vs0 : List IV} (enc : Nat → List IV) (p : α → Bool) (kh : Nat) (hit : Nat → List IV) (km : Nat) (miss : List IV) (l : List α) (h0 : vs0 = enc 0) (hl : l.length < rounds)
    (hs : ∀ i x, l[i]? = some x → f (enc i) = some (if p x = true then .done kh (hit i) else .next (enc (i + 1)))) (he : f (enc l.length) = some (.done km miss)) :
    iter rounds f vs0 = some (match l.findIdx? p with | some i => (kh, hit i) | none => (km, miss)) := by
  rw [iter_for (vs0 := vs0) (fun i (_ : Unit) => enc i) (fun i _ x => if p x = true then .inr (kh, hit i) else .inl ()) (fun _ => (km, miss)) (fun _ _ => True) l () h0 hl trivial (fun i s x hx _ => ⟨fun _ _ => trivial, by rw [hs i x hx]; split <;> rfl⟩) (fun _ _ => he)]
  have key : ∀ (l : List α) (k : Nat), runL (fun i (_ : Unit) x => if p x = true then .inr (kh, hit i) else .inl ()) (fun _ => (km, miss)) l k () = match l.findIdx? p with | some i => (kh, hit (k + i)) | none => (km, miss) := by
    intro l
    induction l with
    | nil => intro k; rfl
    | cons x l ih =>
      intro k
      simp only [runL, List.findIdx?_cons]
      by_cases h : p x = true
      · simp [h]
      · simp only [h, if_false, Bool.false_eq_true]
        rw [ih]
        cases l.findIdx? p with
        | none => rfl
        | some i => simp; congr 1; omega
  rw [key l 0]
  cases l.findIdx? p <;> simp
/-- Is one bad, by its place? -/
def anyI {α : Type} (bad : Nat → α → Bool) : List α → Nat → Bool
  | [], _ => false
  | x :: l, k => bad k x || anyI bad l (k + 1)
theorem anyI_true {α : Type} {bad : Nat → α → Bool} : ∀ {l : List α} {k : Nat}, anyI bad l k = true ↔ ∃ i x, l[i]? = some x ∧ bad (k + i) x = true
  | [], k => by simp [anyI]
  | y :: l, k => by
    simp only [anyI, Bool.or_eq_true]
    rw [anyI_true]
    constructor
    · rintro (h | ⟨i, x, h1, h2⟩)
      · exact ⟨0, y, rfl, h⟩
      · exact ⟨i + 1, x, by simpa using h1, by rw [← h2]; congr 1; omega⟩
    · rintro ⟨i, x, h1, h2⟩
      cases i with
      | zero => cases h1; exact .inl h2
      | succ i => exact .inr ⟨i, x, by simpa using h1, by rw [← h2]; congr 1; omega⟩
theorem anyI_false {α : Type} {bad : Nat → α → Bool} {l : List α} {k : Nat} : anyI bad l k = false ↔ ∀ i x, l[i]? = some x → bad (k + i) x = false := by
  rw [← Bool.not_eq_true, anyI_true]
  constructor
  · intro h i x hx
    rw [← Bool.not_eq_true]
    exact fun hb => h ⟨i, x, hx, hb⟩
  · rintro h ⟨i, x, hx, hb⟩
    rw [h i x hx] at hb; cases hb
theorem anyI_any {α : Type} {p : α → Bool} : ∀ {l : List α} {k : Nat}, anyI (fun _ x => p x) l k = l.any p
  | [], _ => rfl
  | x :: l, k => by simp only [anyI, List.any_cons, anyI_any]
/-- A loop that ends at the first that is bad. -/
theorem iter_check {α : Type} {f : List IV → Option SR} {vs0 : List IV} (enc : Nat → List IV) (bad : Nat → α → Bool) (kh : Nat) (hit : List IV) (km : Nat) (miss : List IV) (l : List α) (h0 : vs0 = enc 0) (hl : l.length < rounds)
    (hs : ∀ i x, l[i]? = some x → f (enc i) = some (if bad i x = true then .done kh hit else .next (enc (i + 1)))) (he : f (enc l.length) = some (.done km miss)) :
    iter rounds f vs0 = some (if anyI bad l 0 = true then (kh, hit) else (km, miss)) := by
  rw [iter_for (vs0 := vs0) (fun i (_ : Unit) => enc i) (fun i _ x => if bad i x = true then .inr (kh, hit) else .inl ()) (fun _ => (km, miss)) (fun _ _ => True) l () h0 hl trivial (fun i s x hx _ => ⟨fun _ _ => trivial, by rw [hs i x hx]; split <;> rfl⟩) (fun _ _ => he)]
  have key : ∀ (l : List α) (k : Nat), runL (fun i (_ : Unit) x => if bad i x = true then .inr (kh, hit) else .inl ()) (fun _ => (km, miss)) l k () = if anyI bad l k = true then (kh, hit) else (km, miss) := by
    intro l
    induction l with
    | nil => intro k; rfl
    | cons x l ih =>
      intro k
      simp only [runL, anyI]
      by_cases h : bad k x = true
      · simp [h]
      · simp only [h, if_false, Bool.false_eq_true, Bool.false_or]
        exact ih (k + 1)
  rw [key l 0]
/-- A loop that gathers. -/
theorem iter_fold {α σ : Type} {f : List IV → Option SR} {vs0 : List IV} (enc : Nat → σ → List IV) (g : σ → α → σ) (km : Nat) (out : σ → List IV) (I : Nat → σ → Prop) (l : List α) (s : σ) (h0 : vs0 = enc 0 s) (hl : l.length < rounds) (hI : I 0 s)
    (hs : ∀ i s x, l[i]? = some x → I i s → I (i + 1) (g s x) ∧ f (enc i s) = some (.next (enc (i + 1) (g s x)))) (he : ∀ s, I l.length s → f (enc l.length s) = some (.done km (out s))) :
    iter rounds f vs0 = some (km, out (l.foldl g s)) := by
  rw [iter_for (vs0 := vs0) enc (fun _ s x => .inl (g s x)) (fun s => (km, out s)) I l s h0 hl hI (fun i s x hx hI => ⟨fun s' e => by cases e; exact (hs i s x hx hI).1, (hs i s x hx hI).2⟩) he]
  congr 1
  have key : ∀ (l : List α) (k : Nat) (s : σ), runL (fun _ s x => .inl (g s x)) (fun s => (km, out s)) l k s = (km, out (l.foldl g s)) := by
    intro l
    induction l with
    | nil => intro k s; rfl
    | cons x l ih => intro k s; exact ih (k + 1) (g s x)
  exact key l 0 s
end Go.AM

/- Lists of whole numbers that rise: a number put into one; two of the same members are one. -/
set_option linter.unusedVariables false
set_option linter.unusedSimpArgs false
namespace Go.AM

abbrev Rises (l : List Int) : Prop := l.Pairwise (· < ·)
theorem rises_ext : ∀ {a b : List Int}, Rises a → Rises b → (∀ x, x ∈ a ↔ x ∈ b) → a = b
  | [], [], _, _, _ => rfl
  | [], y :: b, _, _, h => absurd ((h y).2 List.mem_cons_self) (by simp)
  | x :: a, [], _, _, h => absurd ((h x).1 List.mem_cons_self) (by simp)
  | x :: a, y :: b, ha, hb, h => by
    have ha1 := List.pairwise_cons.1 ha
    have hb1 := List.pairwise_cons.1 hb
    have hxy : x = y := by
      rcases List.mem_cons.1 ((h x).1 List.mem_cons_self) with e | hx
      · exact e
      · rcases List.mem_cons.1 ((h y).2 List.mem_cons_self) with e | hy
        · exact e.symm
        · have := hb1.1 x hx; have := ha1.1 y hy; omega
    subst hxy
    congr 1
    refine rises_ext ha1.2 hb1.2 fun z => ?_
    have hz := h z
    simp only [List.mem_cons] at hz
    constructor
    · intro hm
      rcases hz.1 (.inr hm) with e | h2
      · have := ha1.1 z hm; omega
      · exact h2
    · intro hm
      rcases hz.2 (.inr hm) with e | h2
      · have := hb1.1 z hm; omega
      · exact h2
theorem atI_spec {l : List Int} (hl : Rises l) (n : Int) : atI l n ≤ l.length ∧ (∀ x ∈ l.take (atI l n), x < n) ∧ (∀ x ∈ l.drop (atI l n), n ≤ x) := by
  unfold atI
  cases h : l.findIdx? fun x => !decide (x < n) with
  | none =>
    rw [List.findIdx?_eq_none_iff] at h
    refine ⟨by simp, fun x hx => ?_, fun x hx => by simp at hx⟩
    have := h x (List.mem_of_mem_take hx)
    simpa using this
  | some i =>
    obtain ⟨hi, hp, hn⟩ := List.findIdx?_eq_some_iff_getElem.1 h
    have hge : n ≤ l[i] := by simpa using hp
    simp only [Option.getD_some]
    refine ⟨by omega, fun x hx => ?_, fun x hx => ?_⟩
    · obtain ⟨j, hj, rfl⟩ := List.mem_iff_getElem.1 hx
      simp only [List.length_take] at hj
      have := hn j (by omega)
      simpa using this
    · obtain ⟨j, hj, rfl⟩ := List.mem_iff_getElem.1 hx
      simp only [List.length_drop] at hj
      rw [List.getElem_drop]
      rcases Nat.eq_zero_or_pos j with h0 | h0
      · subst h0; simpa using hge
      · have := List.pairwise_iff_getElem.1 hl i (i + j) (by omega) (by omega) (by omega)
        omega
theorem putI_spec {l : List Int} (hl : Rises l) (n : Int) : Rises (putI l n) ∧ ∀ x, x ∈ putI l n ↔ x ∈ l ∨ x = n := by
  obtain ⟨h1, h2, h3⟩ := atI_spec hl n
  unfold putI
  split
  · rename_i hs
    refine ⟨hl, fun x => ⟨.inl, ?_⟩⟩
    rintro (h | rfl)
    · exact h
    · exact List.mem_of_getElem? hs
  · rename_i hs
    have hgt : ∀ x ∈ l.drop (atI l n), n < x := by
      intro x hx
      have h4 := h3 x hx
      rcases Int.lt_or_eq_of_le h4 with h | h
      · exact h
      · exfalso
        subst h
        obtain ⟨j, hj, he⟩ := List.mem_iff_getElem.1 hx
        simp only [List.length_drop] at hj
        rw [List.getElem_drop] at he
        rcases Nat.eq_zero_or_pos j with h0 | h0
        · subst h0
          apply hs
          rw [List.getElem?_eq_getElem (by omega)]
          simpa using he
        · have h5 := List.pairwise_iff_getElem.1 hl (atI l n) (atI l n + j) (by omega) (by omega) (by omega)
          have h6 := h3 l[atI l n] (by rw [List.mem_iff_getElem]; exact ⟨0, by simp; omega, by simp⟩)
          omega
    have hsplit : l = l.take (atI l n) ++ l.drop (atI l n) := (List.take_append_drop _ _).symm
    constructor
    · have hp := hl
      rw [hsplit] at hp
      have hp := List.pairwise_append.1 hp
      rw [List.append_assoc]
      refine List.pairwise_append.2 ⟨hp.1, ?_, fun a ha b hb => ?_⟩
      · simp only [List.singleton_append, List.pairwise_cons]
        exact ⟨hgt, hp.2.1⟩
      · rcases List.mem_append.1 hb with hb | hb
        · simp at hb; subst hb; exact h2 a ha
        · exact hp.2.2 a ha b hb
    · intro x
      have hm : x ∈ l ↔ x ∈ l.take (atI l n) ∨ x ∈ l.drop (atI l n) := by rw [← List.mem_append, List.take_append_drop]
      rw [hm]
      simp only [List.mem_append, List.mem_singleton]
      constructor
      · rintro ((h | h) | h)
        · exact .inl (.inl h)
        · exact .inr h
        · exact .inl (.inr h)
      · rintro ((h | h) | h)
        · exact .inl (.inl h)
        · exact .inr h
        · exact .inl (.inr h)
end Go.AM

/- A loop over an iterator that writes variables of its own; maps of whole numbers. -/
set_option linter.unusedVariables false
set_option linter.unusedSimpArgs false
namespace Go.AM
open Go.RowKit

/-- A number's worth. -/
def iOf : Value → Int | .int _ n => n | _ => 0
/-- What is told of an iterator: what it asks to be kept (Kp), what it may do to memory by itself (Chg). -/
def SeqC {α : Type} (F : Fence) (n : Nat) (P : Program) (g : Nat) (lb : Array Value) (encs : α → Array Value) (R : List α → α → Prop) (Kp Chg : World → World → Prop) (S Sp : List α → Prop) (w : World) : Prop :=
  ∀ (l : Nat) (J Jx : List α → World → Prop) (W : World), Below w.heap.size w W → (∀ s A B, J s A → Chg A B → J s B) → (∀ s A B, Jx s A → Chg A B → Jx s B) →
    (∀ pre x W1, R pre x → J pre W1 → YieldAt F (n - 1) P l (encs x) W1 fun e W' => (e = .returned (.bool true) ∧ J (pre ++ [x]) W' ∧ Kp W1 W') ∨ (e = .returned (.bool false) ∧ Jx (pre ++ [x]) W')) →
    J [] W → CallsIn F n P g (#[.func (.yield l) #[] #[]] ++ lb) W fun e W' => (∃ v, e = .returned v) ∧ ((∃ xs, S xs ∧ J xs W') ∨ (∃ pre, Sp pre ∧ Jx pre W'))

/-- What is told of memory at a loop abides the turns of the loop's own two blocks. -/
def Own2 {β : Type} (B : Nat) (I : β → World → Prop) : Prop :=
  ∀ s W W' row, I s W → W.grownBy W' row → (∀ r, row = some r → (r = B ∨ r = B + 1) ∧ ∃ o : Obj, W.heap[r]? = some o ∧ o.isCells = false) → I s W'
theorem OwnFrom.two {β : Type} {B : Nat} {I : β → World → Prop} (h : OwnFrom B I) : Own2 B I := fun s W W' row hs hg hr => h s W W' row hs hg fun r e => ⟨by have := (hr r e).1; omega, (hr r e).2⟩
theorem Own2.putObj {β : Type} {B : Nat} {I : β → World → Prop} (h : Own2 B I) {s : β} {W : World} {l : Nat} {o : Obj} (o' : Obj) (hs : I s W) (hB : l = B ∨ l = B + 1) (hl : W.heap[l]? = some o) (ho : o.isCells = false) : I s (W.putObj l o') :=
  h s W _ (some l) hs (grownBy_putObj' W l o') (fun r e => by cases e; exact ⟨hB, o, hl, ho⟩)
theorem Own2.alloc {β : Type} {B : Nat} {I : β → World → Prop} (h : Own2 B I) {s : β} {W : World} (o : Obj) (hs : I s W) : I s (W.alloc o) :=
  h s W _ none hs (World.grownBy_alloc W o none) (fun r e => by cases e)
section
variable {F : Fence} {n : Nat} {P : Program}
theorem wpIn_range_c {α : Type} {g : Operand} {ps : Array Tmp} {assign body : Code} {Q : Exit → Act → World → Prop} {a : Act} {w : World}
    (hro : F.round = none) (h1 : 1 ≤ n) {gf : Nat} {lb : Array Value} (hg : a.eval g = .func (.func gf) #[] lb) (hFg : F.fn gf) (eg : ∀ args w, (callFunc gf args).run P w = .ok (.enter gf args) w)
    {encs : α → Array Value} {Kp Chg : World → World → Prop} {S Sp : List α → Prop} (hseq : SeqC F (n - 1) P gf lb encs (fun _ _ => True) Kp Chg S Sp w) (hC : ∀ (A B : World) (k : Nat) (o : Obj), Chg A B → w.heap.size ≤ k → A.heap[k]? = some o → o.isCells = false → B.heap[k]? = some o)
    (hKt : ∀ {A B C : World}, Kp A B → Kp B C → Kp A C) (hKb : ∀ (W : World) (l : Nat) (o o' : Obj), w.heap.size ≤ l → W.heap[l]? = some o → o.isCells = false → o.isWalk = false → Kp W (W.putObj l o')) (hps : ∀ x, (encs x).size = ps.size)
    (I : List α → World → Prop) (Ix : Code → List α → World → Prop) (hI : Own2 w.heap.size I) (hIx : ∀ c, Own2 w.heap.size (Ix c)) (hIC : ∀ s A B, Chg A B → I s A → I s B) (hIxC : ∀ c s A B, Chg A B → Ix c s A → Ix c s B) (h0 : I [] w) (a₁ : α → Act)
    (hassign : ∀ (l : Nat) (x : α) (W : World) (K : Act → World → Prop), K (a₁ x) W →
      assign.wpIn (F.inRound l) (n - 1 - 1) P (Exit.then K (fun _ _ _ => False)) { tmps := (ps.zip (encs x)).foldl (fun t (p, v) => t.setIfInBounds p v) a.tmps, defers := [] } W)
    (hbody : ∀ (l : Nat) (pre : List α) (x : α) (W : World), I pre W → body.wpIn (F.inRound l) (n - 1 - 1) P (ownPostG w.heap.size Kp I Ix (pre ++ [x]) W) (a₁ x) W)
    (hdone : ∀ (D : Nat) (xs : List α) (W : World), w.heap.size ≤ D → S xs → I xs W → W.heap[D]? = some (.deferred (some [])) → Q .normal { a with defers := { target := .collected D, args := #[] } :: a.defers } W)
    (hstop : ∀ (D : Nat) (c : Code) (pre : List α) (W : World), w.heap.size ≤ D → Sp pre → Ix c pre W → W.heap[D]? = some (.deferred (some [])) → c.wpIn F n P Q { a with defers := { target := .collected D, args := #[] } :: a.defers } W) :
    (Code.rangeFunc g ps assign body).wpIn F n P Q a w := by
  refine wpIn_rangeFunc ?_
  intro fn hfn
  rw [hro]
  obtain ⟨rec, hrec⟩ : ∃ rec : LoopState → Option Code → Loop, rec = fun st pe => { state := st, pending := pe, fn, tmps := a.tmps, params := ps, assign, body, defers := w.heap.size } := ⟨_, rfl⟩
  obtain ⟨W1, hW1⟩ : ∃ W1, (w.alloc (.deferred (some []))).alloc (.loop (rec .ready none)) = W1 := ⟨_, rfl⟩
  have hL1 : W1.heap[w.heap.size + 1]? = some (.loop (rec .ready none)) := by
    rw [← hW1]; have := World.alloc_heap_new (w.alloc (.deferred (some []))) (.loop (rec .ready none)); rwa [World.size_alloc] at this
  have hK1 : W1.heap[w.heap.size]? = some (.deferred (some [])) := by
    rw [← hW1]; exact (Below.heap_alloc _ _ _ (by simp)).trans (World.alloc_heap_new w _)
  have hI1 : I [] W1 := by rw [← hW1]; exact hI.alloc _ (hI.alloc _ h0)
  have hb1 : Below w.heap.size w W1 := by
    rw [← hW1]; exact ((Below.refl _ w).alloc (Nat.le_refl _) _).alloc (by simp) _
  refine ⟨w.heap.size + 1, [{ target := .collected w.heap.size, args := #[] }], W1, { target := .fn (.func gf) lb, args := #[.func (.yield (w.heap.size + 1)) #[] #[]] }, W1, gf,
    #[.func (.yield (w.heap.size + 1)) #[] #[]] ++ lb, W1, ?_, ?_, ?_, ?_, fun _ => h1, ?_⟩
  · rw [← hW1, hrec]; exact run_enterLoop_outer _ _ _ _ _
  · simp only [resolve, hg]
    simp [go_sem]
  · intro f' hf'; simp [Target.leads] at hf'; subst hf'; exact hFg
  · simp [invoke, go_sem, eg]
  · -- THE ITERATOR's CONTRACT, AT THE CALLER's INVARIANT WITH THE TWO FACTS OF BOOK-KEEPING BESIDE IT
    refine (hseq (w.heap.size + 1)
      (fun pre W => I pre W ∧ W.heap[w.heap.size + 1]? = some (.loop (rec .ready none)) ∧ W.heap[w.heap.size]? = some (.deferred (some [])))
      (fun pre W => ∃ c, Ix c pre W ∧ W.heap[w.heap.size + 1]? = some (.loop (rec .done (some c))) ∧ W.heap[w.heap.size]? = some (.deferred (some [])))
      W1 hb1
      (fun s A B hs hg => ⟨hIC s A B hg hs.1, hC A B _ _ hg (by omega) hs.2.1 rfl, hC A B _ _ hg (Nat.le_refl _) hs.2.2 rfl⟩)
      (fun s A B hs hg => by
        obtain ⟨c, hc, hl, hk⟩ := hs
        exact ⟨c, hIxC c s A B hg hc, hC A B _ _ hg (by omega) hl rfl, hC A B _ _ hg (Nat.le_refl _) hk rfl⟩)
      ?_ ⟨hI1, hL1, hK1⟩).mono ?_
    · -- ONE ROUND
      rintro pre x W - ⟨hi, hl, hk⟩
      have hlt : w.heap.size + 1 < W.heap.size := (Array.getElem?_eq_some_iff.1 hl).1
      have hy := run_yield (P := P) (args := encs x) hl (by rw [hrec]; exact hps x)
      rw [hrec] at hy
      refine ⟨fn, _, assign, body, hy, roundIn_of_wpIn hfn (hassign _ x W _ ⟨_, run_beginRound hl (by rw [hrec]), ?_⟩)⟩
      have hl2 : (W.putObj (w.heap.size + 1) (.loop { rec .ready none with state := .busy })).heap[w.heap.size + 1]? = some (.loop { rec .ready none with state := .busy }) := World.putObj_heap_same hlt
      have hk2 : (W.putObj (w.heap.size + 1) (.loop { rec .ready none with state := .busy })).heap[w.heap.size]? = some (.deferred (some [])) := (World.putObj_heap_other (by omega)).trans hk
      have hw2 : Kp W (W.putObj (w.heap.size + 1) (.loop { rec .ready none with state := .busy })) := hKb _ _ _ _ (by omega) hl rfl rfl
      refine wpIn_mono (hbody _ pre x _ (hI.putObj _ hi (.inr rfl) hl rfl)) ?_
      have fin : ∀ (jump : Option Code) (W3 : World), KeepsFrom w.heap.size (W.putObj (w.heap.size + 1) (.loop { rec .ready none with state := .busy })) W3 →
          (Instr.endRound (w.heap.size + 1) jump).run P W3 = .ok (.bool jump.isNone) (W3.putObj (w.heap.size + 1) (.loop (rec (if jump.isNone then .ready else .done) jump))) ∧
          W3.heap[w.heap.size + 1]? = some (.loop { rec .ready none with state := .busy }) ∧
          (W3.putObj (w.heap.size + 1) (.loop (rec (if jump.isNone then .ready else .done) jump))).heap[w.heap.size + 1]? = some (.loop (rec (if jump.isNone then .ready else .done) jump)) ∧
          (W3.putObj (w.heap.size + 1) (.loop (rec (if jump.isNone then .ready else .done) jump))).heap[w.heap.size]? = some (.deferred (some [])) := fun jump W3 hk3 => by
        have hl3 := hk3.same _ _ (by omega) hl2 rfl
        have := run_endRound (P := P) jump hl3
        rw [hrec] at this ⊢
        exact ⟨this, by rw [hrec] at hl3; exact hl3, World.putObj_heap_same (Array.getElem?_eq_some_iff.1 hl3).1, (World.putObj_heap_other (by omega)).trans (hk3.same _ _ (Nat.le_refl _) hk2 rfl)⟩
      rintro e a3 W3 hp
      cases e with
      | normal =>
        obtain ⟨hk3, hkp3, hi3⟩ := hp
        obtain ⟨hr, hl3, hl4, hk4⟩ := fin none W3 hk3
        exact ⟨_, _, hr, .inl ⟨rfl, ⟨hI.putObj _ hi3 (.inr rfl) hl3 rfl, hl4, hk4⟩, hKt (hKt hw2 hkp3) (hKb _ _ _ _ (by omega) hl3 rfl rfl)⟩⟩
      | ret =>
        obtain ⟨hk3, hi3⟩ := hp
        obtain ⟨hr, hl3, hl4, hk4⟩ := fin (some .ret) W3 hk3
        exact ⟨_, _, hr, .inr ⟨rfl, .ret, (hIx _).putObj _ hi3 (.inr rfl) hl3 rfl, hl4, hk4⟩⟩
      | exit id =>
        obtain ⟨hk3, hi3⟩ := hp
        obtain ⟨hr, hl3, hl4, hk4⟩ := fin (some (.exit id)) W3 hk3
        exact ⟨_, _, hr, .inr ⟨rfl, .exit id, (hIx _).putObj _ hi3 (.inr rfl) hl3 rfl, hl4, hk4⟩⟩
      | goto t =>
        obtain ⟨hk3, hi3⟩ := hp
        obtain ⟨hr, hl3, hl4, hk4⟩ := fin (some (.goto t)) W3 hk3
        exact ⟨_, _, hr, .inr ⟨rfl, .goto t, (hIx _).putObj _ hi3 (.inr rfl) hl3 rfl, hl4, hk4⟩⟩
      | panic ch => exact hp.elim
      | outgrown => exact hp.elim
    · -- BEHIND THE ITERATOR
      rintro e W2 ⟨⟨v, rfl⟩, (⟨xs, hS, hi, hl, hk⟩ | ⟨pre, hSp, c, hi, hl, hk⟩)⟩
      · exact ⟨none, _, by have := run_endLoop (P := P) hl (by rw [hrec]; simp); rw [hrec] at this; exact this, hdone _ xs _ (Nat.le_refl _) hS (hI.putObj _ hi (.inr rfl) hl rfl) ((World.putObj_heap_other (by omega)).trans hk)⟩
      · exact ⟨some c, _, by have := run_endLoop (P := P) hl (by rw [hrec]; simp); rw [hrec] at this; exact this, hstop _ c pre _ (Nat.le_refl _) hSp ((hIx c).putObj _ hi (.inr rfl) hl rfl) ((World.putObj_heap_other (by omega)).trans hk)⟩
end

/-! ### Maps of whole numbers -/
/-- Block b is a map of whole numbers: f tells what lies at a key; n are the keys. -/
def MapI (w : World) (P : Program) (tk te : TypeId) (b n : Nat) (f : Int → Option Int) : Prop :=
  ∃ D : DataW Unit, w.ownsMap P tk (plainElem P te) b n D ∧ Maps.size D = n ∧ ∀ k, (Maps.has D (.int .i64 k) = (f k).isSome) ∧ ∀ c, f k = some c → D.atKey (.int .i64 k) (.lit (.int .i64 0)) = .lit (.int .i64 c)
theorem ownsMap_of_block {H : Type} {w w' : World} {P : Program} {k : TypeId} {R : Value → Option (DataW H × List MemPlace)} {b n : Nat} {D : DataW H} (h : w.ownsMap P k R b n D) (hb : w'.heap[b]? = w.heap[b]?) : w'.ownsMap P k R b n D := by
  obtain ⟨es, c, h1, h2⟩ := h
  exact ⟨es, c, hb.trans h1, h2⟩
theorem MapI.of_block {w w' : World} {P : Program} {tk te : TypeId} {b n : Nat} {f : Int → Option Int} (h : MapI w P tk te b n f) (hb : w'.heap[b]? = w.heap[b]?) : MapI w' P tk te b n f := by
  obtain ⟨D, h1, h2⟩ := h
  exact ⟨D, ownsMap_of_block h1 hb, h2⟩
theorem MapI.below {w w' : World} {P : Program} {tk te : TypeId} {b n n0 : Nat} {f : Int → Option Int} (h : MapI w P tk te b n f) (hb : b < n0) (hw : Below n0 w w') : MapI w' P tk te b n f := h.of_block (hw.block b hb)
theorem MapI.made (w : World) (P : Program) (tk te : TypeId) : MapI (w.alloc (.map #[] 0)) P tk te w.heap.size 0 (fun _ => none) :=
  ⟨_, World.ownsMap_made w P tk _, rfl, fun k => ⟨rfl, fun c h => by cases h⟩⟩

theorem snoc_ind {α : Type} {p : List α → Prop} (h0 : p []) (h1 : ∀ l x, p l → p (l ++ [x])) (l : List α) : p l := by
  have : ∀ r : List α, p r.reverse := by
    intro r
    induction r with
    | nil => exact h0
    | cons x r ih => rw [List.reverse_cons]; exact h1 _ _ ih
  simpa using this l.reverse
theorem lkp_nil (k : Int) : lkp [] k = none := rfl
theorem ksof_nil : ksof [] = [] := rfl
theorem lkp_snoc (ps : List (Int × Int)) (p : Int × Int) (k : Int) : lkp (ps ++ [p]) k = if (lkp ps k).isSome then lkp ps k else if p.1 = k then some p.2 else none := by
  unfold lkp
  rw [List.find?_append]
  cases h : ps.find? fun p => p.1 == k with
  | some q => simp
  | none =>
    simp only [Option.map_none, Option.isSome_none, Bool.false_eq_true, if_false, Option.none_or, List.find?_cons]
    by_cases e : p.1 = k
    · simp [e]
    · have : (p.1 == k) = false := by simp [e]
      simp [e, this]
theorem ksof_snoc (ps : List (Int × Int)) (p : Int × Int) : ksof (ps ++ [p]) = if (ksof ps).contains p.1 then ksof ps else ksof ps ++ [p.1] := by
  unfold ksof; rw [List.foldl_append]; rfl
theorem mem_ksof (ps : List (Int × Int)) (k : Int) : k ∈ ksof ps ↔ (lkp ps k).isSome = true := by
  induction ps using snoc_ind generalizing k with
  | h0 => simp [ksof_nil, lkp_nil]
  | h1 ps p ih =>
    rw [ksof_snoc, lkp_snoc]
    by_cases hc : p.1 ∈ ksof ps
    · have hc' := (ih p.1).1 hc
      simp only [List.contains_iff_mem, hc, if_true]
      rw [ih]
      by_cases e : p.1 = k
      · subst e; simp [hc']
      · by_cases hk : (lkp ps k).isSome = true
        · simp [hk]
        · simp [hk, e]
    · have hc' : ¬ (lkp ps p.1).isSome = true := fun h => hc ((ih p.1).2 h)
      simp only [List.contains_iff_mem, hc, if_false, List.mem_append, List.mem_singleton]
      rw [ih]
      by_cases hk : (lkp ps k).isSome = true
      · simp [hk]
      · by_cases e : p.1 = k
        · simp [hk, e]
        · simp [hk, e, Ne.symm e]
theorem ksof_le (ps : List (Int × Int)) : (ksof ps).length ≤ ps.length := by
  induction ps using snoc_ind with
  | h0 => simp [ksof_nil]
  | h1 ps p ih =>
    rw [ksof_snoc]
    split <;> simp <;> omega

/-- A key that lies there lets it be. -/
theorem MapI.same {w : World} {P : Program} {tk te : TypeId} {b : Nat} {ps : List (Int × Int)} {p : Int × Int} (h : MapI w P tk te b (ksof ps).length (lkp ps)) (hk : (lkp ps p.1).isSome = true) : MapI w P tk te b (ksof (ps ++ [p])).length (lkp (ps ++ [p])) := by
  have h1 : ksof (ps ++ [p]) = ksof ps := by rw [ksof_snoc]; simp [(mem_ksof ps p.1).2 hk]
  have h2 : lkp (ps ++ [p]) = lkp ps := by
    funext k
    rw [lkp_snoc]
    by_cases e : (lkp ps k).isSome = true
    · simp [e]
    · have : ¬ p.1 = k := fun h => e (h ▸ hk)
      simp only [e, if_false, this, if_false]
      simp at e
      simp [e]
  rw [h1, h2]; exact h
/-- A key that is new. -/
theorem MapI.put {w' : World} {P : Program} {tk te : TypeId} {b : Nat} {ps : List (Int × Int)} {p : Int × Int} (hk : (lkp ps p.1).isSome = false) {D : DataW Unit} (hm : Maps.IsMap D) (ht : Maps.Tidy D) (hs : Maps.size D = (ksof ps).length) (hf : ∀ k, (Maps.has D (.int .i64 k) = (lkp ps k).isSome) ∧ ∀ c, lkp ps k = some c → D.atKey (.int .i64 k) (.lit (.int .i64 0)) = .lit (.int .i64 c))
    (h : w'.ownsMap P tk (plainElem P te) b ((ksof ps).length + 1) (D.put (.int .i64 p.1) (.lit (.int .i64 p.2)))) : MapI w' P tk te b (ksof (ps ++ [p])).length (lkp (ps ++ [p])) := by
  have hnot : p.1 ∉ ksof ps := fun h => by rw [(mem_ksof ps p.1).1 h] at hk; cases hk
  have h1 : (ksof (ps ++ [p])).length = (ksof ps).length + 1 := by rw [ksof_snoc]; simp [hnot]
  rw [h1]
  refine ⟨_, h, ?_, fun k => ?_⟩
  · rw [Maps.size_put ht, (hf p.1).1, hk, hs]; rfl
  · rw [lkp_snoc]
    by_cases e : p.1 = k
    · subst e
      rw [Maps.has_put_same hm (show WideAt.IsKeyLit (.int .i64 p.1) from trivial), Maps.atKey_put_same hm (show WideAt.IsKeyLit (.int .i64 p.1) from trivial)]
      simp only [hk]
      simp
    · have hne : (Lit.int .i64 k) ≠ .int .i64 p.1 := fun h => by cases h; exact e rfl
      rw [Maps.has_put_other hne, Maps.atKey_put_other hne]
      simp only [e, if_false]
      by_cases hl : (lkp ps k).isSome = true
      · simp only [hl, if_true]; rw [← hl]; exact hf k
      · simp only [hl, if_false]
        simp only [Bool.not_eq_true] at hl
        rw [(hf k).1, hl]
        simp

theorem MapI.look {w : World} {P : Program} {t tk te : TypeId} {b n : Nat} {f : Int → Option Int} (h : MapI w P tk te b n f) (ht : P.underlying t = some (.map tk te)) (hk : P.underlying tk = some (.int .i64)) (he : P.underlying te = some (.int .i64)) (hz : (zeroValue te).run P w = .ok (.int .i64 0) w) {k : Int} (hw : (Lit.int .i64 k).wf = true) :
    ∃ c, (Instr.lookup t (.map (some b)) (.int .i64 k) true).run P w = .ok (.tuple #[.int .i64 c, .bool (f k).isSome]) w ∧ ∀ x, f k = some x → c = x := by
  obtain ⟨D, h1, h2, h3⟩ := h
  obtain ⟨v, ps, hrun, hv⟩ := h1.look_ok (Maps.int_keyed hk) ht hz (zd := .lit (.int .i64 0)) (zp := []) (plainElem_int he (by decide)) (Maps.keyOf_int_mk hk hw)
  obtain ⟨c, rfl, hc, hwc⟩ := plainElem_int_inv he hv
  refine ⟨c, by rw [hrun, (h3 k).1], fun x hx => ?_⟩
  have := (h3 k).2 x hx
  have hcc : D.atKey (.int .i64 k) (.lit (.int .i64 0)) = .lit (.int .i64 c) := congrArg Prod.fst hc
  rw [hcc] at this
  simpa using this
theorem MapI.stored {w : World} {P : Program} {t tk te : TypeId} {b : Nat} {ps : List (Int × Int)} {p : Int × Int} (h : MapI w P tk te b (ksof ps).length (lkp ps)) (ht : P.underlying t = some (.map tk te)) (hk : P.underlying tk = some (.int .i64)) (he : P.underlying te = some (.int .i64)) (hl : (lkp ps p.1).isSome = false) (hn : ps.length < maxLen)
    (hw1 : (Lit.int .i64 p.1).wf = true) (hw2 : (Lit.int .i64 p.2).wf = true) : ∃ w', (Instr.mapUpdate t (.map (some b)) (.int .i64 p.1) (.int .i64 p.2)).run P w = .ok () w' ∧ MapI w' P tk te b (ksof (ps ++ [p])).length (lkp (ps ++ [p])) ∧ w.grownBy w' (some b) := by
  obtain ⟨D, h1, h2, h3⟩ := h
  obtain ⟨w', hrun, r1, r2⟩ := h1.update (Maps.int_keyed hk) ht (Nat.lt_of_le_of_lt (ksof_le ps) hn) (Maps.keyOf_int_mk hk hw1) (plainElem_int he hw2)
  exact ⟨w', hrun, MapI.put (p := p) hl h1.isMap (h1.tidy (Maps.int_keyed hk)) h2 h3 r1, r2⟩
theorem MapI.len {w : World} {P : Program} {t tk te : TypeId} {b n : Nat} {f : Int → Option Int} (h : MapI w P tk te b n f) (ht : P.underlying t = some (.map tk te)) (ty : TypeId) : (Builtin.len_ #[t] ty #[.map (some b)]).run P w = .ok (.int .i64 n) w := by
  obtain ⟨D, h1, h2, h3⟩ := h
  rw [h1.len ht, h2]
theorem MapI.lt {w : World} {P : Program} {tk te : TypeId} {b n : Nat} {f : Int → Option Int} (h : MapI w P tk te b n f) : b < w.heap.size := by
  obtain ⟨D, h1, h2⟩ := h; exact h1.lt
theorem MapI.alloc {w : World} {P : Program} {tk te : TypeId} {b n : Nat} {f : Int → Option Int} (h : MapI w P tk te b n f) (o : Obj) : MapI (w.alloc o) P tk te b n f := by
  obtain ⟨D, h1, h2⟩ := h; exact ⟨D, h1.alloc o, h2⟩
theorem take_snoc {α : Type} {l : List α} {k : Nat} {x : α} (h : l[k]? = some x) : l.take (k + 1) = l.take k ++ [x] := by
  rw [List.take_add_one, h]; rfl
theorem grown_below {w0 w w' : World} {b n : Nat} (hb : Below n w0 w) (hg : w.grownBy w' (some b)) (h : n ≤ b) (hn : n ≤ w0.heap.size) : Below n w0 w' := hb.grown hg (Nat.le_trans hn hb.size) fun k e => by cases e; exact h

end Go.AM

/- Contracts of functions walked by hand, off their walks. No program is named here. -/
set_option linter.unusedVariables false
set_option linter.unusedSimpArgs false
namespace Go.AM
open Go.RowKit

theorem addr_plain {w : World} {ad : Addr} {u : Value} (h : w.cell? (ad.add 0) = some u) (q : Nat) : ad.add q = ⟨ad.block, ad.off + q, none⟩ := by
  have h0 : ad.add 0 = ad := by simp [Addr.add]
  rw [h0] at h
  have hs : ad.spot = none := by
    unfold World.cell? at h
    split at h
    · split at h
      · cases h
      · rename_i hs; simpa using hs
    · cases h
  obtain ⟨b, o, s⟩ := ad
  simp only at hs
  subst hs
  by_cases hq : q = 0
  · subst hq; simp [Addr.add]
  · simp [Addr.add, hq]
theorem mapM_at {α β : Type} {f : α → Option β} : ∀ {l : List α} {r : List β}, l.mapM f = some r → r.length = l.length ∧ ∀ (i : Nat) (x : α), l[i]? = some x → ∃ y, r[i]? = some y ∧ f x = some y := by
  intro l r h
  obtain ⟨h1, h2⟩ := mapM_get h
  exact ⟨h1, fun i x hx => h2 i x hx⟩

/-- A list in memory, cell by cell. -/
theorem lst_cells {w : World} {ok : Nat → Prop} (hok : ∀ b, ok b → b < w.heap.size) {es : List (List IV)} {v : Value} (r : RV w ok (.lst es) v) {sz : Nat} (hpos : 0 < sz) (hall : ∀ e ∈ es, e.length = sz) :
    ∃ (A : Option Addr) (cap b off : Nat), v = .slice A es.length cap ∧ (0 < es.length → A = some ⟨b, off, none⟩ ∧ b < w.heap.size) ∧ ∀ (i j : Nat) (e : List IV) (x : IV), es[i]? = some e → e[j]? = some x → ∃ u, w.cell? ⟨b, off + i * sz + j, none⟩ = some u ∧ RV w ok x u := by
  obtain ⟨A, cap, vs, hv, hr, hc⟩ := rows_of hok r hpos hall
  by_cases he : 0 < es.length
  · obtain ⟨ad, hA, hq⟩ := hc he
    have hl0 : 0 < vs.length := by rw [hr.1]; exact Nat.mul_pos he hpos
    have h0 := hq 0 vs[0] (List.getElem?_eq_getElem hl0)
    have hp := addr_plain h0
    have hb : ad.block < w.heap.size := by
      obtain ⟨c, T, fr, h1, _⟩ := block_of_cell h0
      rw [add_block] at h1
      exact (Array.getElem?_eq_some_iff.1 h1).1
    refine ⟨A, cap, ad.block, ad.off, hv, fun _ => ⟨?_, hb⟩, fun i j e x h1 h2 => ?_⟩
    · rw [hA]
      have := hp 0
      simp [Addr.add] at this
      rw [this]
    · obtain ⟨u, hu, hru⟩ := hr.2.2 i j e x h1 h2
      exact ⟨u, by rw [← hq _ u hu, hp, Nat.add_assoc], hru⟩
  · refine ⟨A, cap, 0, 0, hv, fun h => absurd h he, fun i j e x h1 _ => ?_⟩
    have := (List.getElem?_eq_some_iff.1 h1).1
    omega

theorem rowI_some {e : List IV} {p : Int × Int} (h : rowI e = some p) : ∃ s r, e = [.int .i64 p.1, .int .i64 p.2, .str s, .flt .f64 r] ∧ (Lit.int .i64 p.1).wf = true ∧ (Lit.int .i64 p.2).wf = true := by
  unfold rowI at h
  split at h
  · split at h
    · rename_i hw; cases h; exact ⟨_, _, rfl, hw.1, hw.2⟩
    · cases h
  · cases h
theorem mapM_len {f : List IV → Option (Int × Int)} {es : List (List IV)} {ps : List (Int × Int)} (h : es.mapM f = some ps) : ps.length = es.length := (mapM_at h).1
def strOf : IV → ByteArray | .str s => s | _ => default
def fltOf : IV → Nat | .flt _ n => n | _ => 0

/-- Rows in memory. -/
def RowsAt (w : World) (b off : Nat) (ps : List (Int × Int)) (ss : Nat → ByteArray) (fs : Nat → Nat) : Prop :=
  ∀ (j : Nat) (p : Int × Int), ps[j]? = some p → w.cell? ⟨b, off + j * 4, none⟩ = some (.int .i64 p.1) ∧ w.cell? ⟨b, off + j * 4 + 1, none⟩ = some (.int .i64 p.2) ∧ w.cell? ⟨b, off + j * 4 + 2, none⟩ = some (.string (ss j)) ∧ w.cell? ⟨b, off + j * 4 + 3, none⟩ = some (.float .f64 (fs j))
theorem rows_at {w : World} {ok : Nat → Prop} (hok : ∀ b, ok b → b < w.heap.size) {es : List (List IV)} {v : Value} (r : RV w ok (.lst es) v) {ps : List (Int × Int)} (h : es.mapM rowI = some ps) :
    ∃ (A : Option Addr) (cap b off : Nat) (ss : Nat → ByteArray) (fs : Nat → Nat), v = .slice A ps.length cap ∧ (0 < ps.length → A = some ⟨b, off, none⟩) ∧ (0 < ps.length → b < w.heap.size) ∧ (∀ p ∈ ps, (Lit.int .i64 p.1).wf = true ∧ (Lit.int .i64 p.2).wf = true) ∧ RowsAt w b off ps ss fs := by
  obtain ⟨hl, hg⟩ := mapM_at h
  have hlen : ∀ e ∈ es, e.length = 4 := fun e he => by
    obtain ⟨i, hi⟩ := List.mem_iff_getElem?.1 he
    obtain ⟨p, _, hp⟩ := hg i e hi
    obtain ⟨s, r, rfl, _⟩ := rowI_some hp
    rfl
  obtain ⟨A, cap, b, off, hv, hA, hc⟩ := lst_cells hok r (by decide) hlen
  refine ⟨A, cap, b, off, fun j => strOf (((es.getD j []).getD 2 .nilp)), fun j => fltOf (((es.getD j []).getD 3 .nilp)), by rw [hl]; exact hv, fun h => (hA (by omega)).1, fun h => (hA (by omega)).2, fun p hp => ?_, fun j p hj => ?_⟩
  · obtain ⟨i, hi⟩ := List.mem_iff_getElem?.1 hp
    have hi2 : i < es.length := by rw [← hl]; exact (List.getElem?_eq_some_iff.1 hi).1
    obtain ⟨p', h1, h2⟩ := hg i _ (List.getElem?_eq_getElem hi2)
    rw [hi] at h1; cases h1
    obtain ⟨s, r, _, h3, h4⟩ := rowI_some h2
    exact ⟨h3, h4⟩
  · have hi2 : j < es.length := by rw [← hl]; exact (List.getElem?_eq_some_iff.1 hj).1
    have he := List.getElem?_eq_getElem hi2
    obtain ⟨p', h1, h2⟩ := hg j _ he
    rw [hj] at h1; cases h1
    obtain ⟨s, r, h5, _⟩ := rowI_some h2
    rw [h5] at he
    have hget : es.getD j [] = [.int .i64 p.1, .int .i64 p.2, .str s, .flt .f64 r] := by rw [List.getD_eq_getElem?_getD, he]; rfl
    simp only [hget]
    obtain ⟨u0, g0, k0⟩ := hc j 0 _ _ he rfl
    obtain ⟨u1, g1, k1⟩ := hc j 1 _ _ he rfl
    obtain ⟨u2, g2, k2⟩ := hc j 2 _ _ he rfl
    obtain ⟨u3, g3, k3⟩ := hc j 3 _ _ he rfl
    cases k0; cases k1; cases k2; cases k3
    exact ⟨g0, g1, g2, g3⟩

theorem argsRel3 {w : World} {ok : Nat → Prop} {x0 x1 x2 : IV} {args : List Value} (h : ArgsRel w ok [[x0], [x1], [x2]] args) : ∃ v0 v1 v2, args = [v0, v1, v2] ∧ RV w ok x0 v0 ∧ RV w ok x1 v1 ∧ RV w ok x2 v2 := by
  obtain ⟨hl, hr⟩ := h
  match args, hl with
  | [v0, v1, v2], _ =>
    have key : ∀ {x : IV} {v : Value}, ArgRel w ok [x] v → RV w ok x v := fun h => by
      rcases h with ⟨y, e, h⟩ | ⟨h, _⟩
      · cases e; exact h
      · simp at h
    exact ⟨v0, v1, v2, rfl, key (hr 0 _ _ rfl rfl), key (hr 1 _ _ rfl rfl), key (hr 2 _ _ rfl rfl)⟩
theorem sig_of_above {P : Program} {g : FuncId} (H : ∀ (w : World) (A : Option Addr) (b off cap : Nat) (ps : List (Int × Int)) (ss : Nat → ByteArray) (fs : Nat → Nat), (0 < ps.length → A = some ⟨b, off, none⟩) → (0 < ps.length → b < w.heap.size) → ps.length ≤ 2 ^ 40 →
      (∀ p ∈ ps, (Lit.int .i64 p.1).wf = true ∧ (Lit.int .i64 p.2).wf = true) → RowsAt w b off ps ss fs → ∀ x y : Int, (Lit.int .i64 y).wf = true →
      Calls P g #[.slice A ps.length cap, .int .i64 x, .int .i64 y] w fun e W' => e = .returned (.bool ((upto (lkp ps) (ksof ps).length y).contains x)) ∧ Below w.heap.size w W') :
    SigOK P g ⟨.pure, true, [1], 0, fun l => match l with | [[x0], [x1], [x2]] => aboveS x0 x1 x2 | _ => none⟩ := by
  have hS : ∀ x0 x1 x2 r, aboveS x0 x1 x2 = some r → ∃ es a b ps, x0 = .lst es ∧ x1 = .int .i64 a ∧ x2 = .int .i64 b ∧ es.length ≤ 2 ^ 40 ∧ (Lit.int .i64 b).wf = true ∧ es.mapM rowI = some ps ∧ r = [.bool ((upto (lkp ps) (ksof ps).length b).contains a)] := by
    intro x0 x1 x2 r h
    unfold aboveS at h
    split at h
    · split at h
      · rename_i hw
        obtain ⟨ps, h1, h2⟩ := Option.map_eq_some_iff.1 h
        exact ⟨_, _, _, ps, rfl, rfl, rfl, hw.1, hw.2, h1, h2.symm⟩
      · cases h
    · cases h
  refine ⟨fun W OK w ok ags args r hk hok hargs hr => ?_, fun _ ags r hr x hx => ?_⟩
  · dsimp only at hr ⊢
    split at hr
    · rename_i x0 x1 x2
      obtain ⟨es, a, b, ps, rfl, rfl, rfl, hmax, hwb, hps, rfl⟩ := hS _ _ _ _ hr
      obtain ⟨v0, v1, v2, rfl, r0, r1, r2⟩ := argsRel3 hargs
      cases r1; cases r2
      obtain ⟨A, cap, bb, off, ss, fs, rfl, hA, hb, hwf, hat⟩ := rows_at hok r0 hps
      refine (H w A bb off cap ps ss fs hA hb (by rw [mapM_len hps]; exact hmax) hwf hat a b hwb).mono ?_
      rintro e W' ⟨rfl, hB⟩
      exact ⟨_, rfl, hB, .inl ⟨rfl, .bool _⟩⟩
    · cases hr
  · dsimp only at hr
    split at hr
    · obtain ⟨es, a, b, ps, rfl, rfl, rfl, _, _, _, rfl⟩ := hS _ _ _ _ hr
      simp at hx; subst hx; rfl
    · cases hr

/-- A step in memory. -/
def StepV.at (s : StepV) (w : World) (b off : Nat) : Prop :=
  w.cell? ⟨b, off, none⟩ = some (.int .i64 s.i0) ∧ w.cell? ⟨b, off + 1, none⟩ = some (.int .i64 s.i1) ∧ w.cell? ⟨b, off + 2, none⟩ = some (.int .i64 s.i2) ∧ w.cell? ⟨b, off + 3, none⟩ = some (.int .i64 s.i3) ∧
  w.cell? ⟨b, off + 4, none⟩ = some (.string s.s4) ∧ w.cell? ⟨b, off + 5, none⟩ = some (.float .f64 s.f5) ∧ w.cell? ⟨b, off + 6, none⟩ = some (.bool s.b6) ∧ w.cell? ⟨b, off + 7, none⟩ = some (.bool s.b7) ∧
  w.cell? ⟨b, off + 8, none⟩ = some (.int .i64 s.i8) ∧ w.cell? ⟨b, off + 9, none⟩ = some (.int .i64 s.i9) ∧ w.cell? ⟨b, off + 10, none⟩ = some (.string s.s10) ∧ w.cell? ⟨b, off + 11, none⟩ = some (.float .f64 s.f11)
/-- The first k rows are well. -/
def wellQ (ob : Nat → Bool) (ps : List (Int × Int)) (k : Nat) : Prop := ∀ j, j < k → ob j = true ∧ ∀ p q, 0 < j → ps[j - 1]? = some p → ps[j]? = some q → p.1 < q.1
theorem risesQ_iff (ob : Nat → Bool) : ∀ (ps : List (Int × Int)) (i : Nat), risesQ ob ps i = true ↔ ∀ j, j < ps.length → ob (i + j) = true ∧ ∀ p q, 0 < j → ps[j - 1]? = some p → ps[j]? = some q → p.1 < q.1
  | [], i => by simp [risesQ]
  | [p], i => by
    simp only [risesQ, List.length_singleton]
    constructor
    · intro h j hj
      obtain rfl : j = 0 := by omega
      exact ⟨by simpa using h, fun p q h0 => by omega⟩
    · intro h
      simpa using (h 0 (by omega)).1
  | p :: q :: l, i => by
    simp only [risesQ, Bool.and_eq_true, decide_eq_true_eq]
    rw [risesQ_iff ob (q :: l) (i + 1)]
    constructor
    · rintro ⟨h1, h2, h3⟩ j hj
      cases j with
      | zero => exact ⟨by simpa using h1, fun p q h0 => by omega⟩
      | succ j =>
        obtain ⟨h4, h5⟩ := h3 j (by simpa using hj)
        refine ⟨by rw [show i + (j + 1) = i + 1 + j by omega]; exact h4, fun a c _ ha hc => ?_⟩
        cases j with
        | zero => simp at ha hc; subst ha; subst hc; exact h2
        | succ j => exact h5 a c (by omega) (by simpa using ha) (by simpa using hc)
    · intro h
      refine ⟨by simpa using (h 0 (by simp)).1, (h 1 (by simp)).2 p q (by omega) rfl rfl, fun j hj => ?_⟩
      obtain ⟨h4, h5⟩ := h (j + 1) (by simpa using hj)
      refine ⟨by rw [show i + 1 + j = i + (j + 1) by omega]; exact h4, fun a c h0 ha hc => ?_⟩
      refine h5 a c (by omega) ?_ (by simpa using hc)
      cases j with
      | zero => omega
      | succ j => simpa using ha
theorem risesQ_well {ob : Nat → Bool} {ps : List (Int × Int)} : risesQ ob ps 0 = true ↔ wellQ ob ps ps.length := by
  rw [risesQ_iff]
  simp only [Nat.zero_add]
  rfl
/-- Two results. -/
theorem two_res {w : World} {ok : Nat → Prop} {r : List IV} {t : Array Value} (h : ResAll w ok r [1, 1] 0 t.toList) : ∃ y0 y1, t = #[y0, y1] := by
  obtain ⟨l⟩ := t
  match l, h with
  | [y0, y1], _ => exact ⟨y0, y1, rfl⟩
theorem two_res0 {w : World} {ok : Nat → Prop} {r : List IV} {y0 y1 : Value} (h : ResAll w ok r [1, 1] 0 #[y0, y1].toList) : ResRel w ok [1] [nth r 0] y0 := by
  rcases h.1 with ⟨_, h1⟩ | ⟨h1, _⟩
  · exact .inl ⟨rfl, h1⟩
  · omega
theorem two_res1 {w : World} {ok : Nat → Prop} {r : List IV} {y0 y1 : Value} (h : ResAll w ok r [1, 1] 0 #[y0, y1].toList) : ResRel w ok [1] [nth r 1] y1 := by
  rcases h.2.1 with ⟨_, h1⟩ | ⟨h1, _⟩
  · exact .inl ⟨rfl, h1⟩
  · omega
end Go.AM

/- The contract of tree.May, off its walk. -/
set_option linter.unusedVariables false
set_option linter.unusedSimpArgs false
namespace Go.AM
open Go.RowKit
theorem rows_at2 {w : World} {ok : Nat → Prop} (hok : ∀ b, ok b → b < w.heap.size) {es : List (List IV)} {v : Value} (r : RV w ok (.lst es) v) {ps : List (Int × Int)} (h : es.mapM rowI = some ps) :
    ∃ (A : Option Addr) (cap b off : Nat) (ss : Nat → ByteArray) (fs : Nat → Nat), v = .slice A ps.length cap ∧ (0 < ps.length → A = some ⟨b, off, none⟩) ∧ (0 < ps.length → b < w.heap.size) ∧ (∀ p ∈ ps, (Lit.int .i64 p.1).wf = true ∧ (Lit.int .i64 p.2).wf = true) ∧ RowsAt w b off ps ss fs ∧
      ∀ (j : Nat) (p : Int × Int), ps[j]? = some p → es[j]? = some [.int .i64 p.1, .int .i64 p.2, .str (ss j), .flt .f64 (fs j)] := by
  obtain ⟨hl, hg⟩ := mapM_at h
  have hlen : ∀ e ∈ es, e.length = 4 := fun e he => by
    obtain ⟨i, hi⟩ := List.mem_iff_getElem?.1 he
    obtain ⟨p, _, hp⟩ := hg i e hi
    obtain ⟨s, r, rfl, _⟩ := rowI_some hp
    rfl
  obtain ⟨A, cap, b, off, hv, hA, hc⟩ := lst_cells hok r (by decide) hlen
  refine ⟨A, cap, b, off, fun j => strOf (((es.getD j []).getD 2 .nilp)), fun j => fltOf (((es.getD j []).getD 3 .nilp)), by rw [hl]; exact hv, fun h => (hA (by omega)).1, fun h => (hA (by omega)).2, fun p hp => ?_, fun j p hj => ?_, fun j p hj => ?_⟩
  · obtain ⟨i, hi⟩ := List.mem_iff_getElem?.1 hp
    have hi2 : i < es.length := by rw [← hl]; exact (List.getElem?_eq_some_iff.1 hi).1
    obtain ⟨p', h1, h2⟩ := hg i _ (List.getElem?_eq_getElem hi2)
    rw [hi] at h1; cases h1
    obtain ⟨s, r, _, h3, h4⟩ := rowI_some h2
    exact ⟨h3, h4⟩
  · have hi2 : j < es.length := by rw [← hl]; exact (List.getElem?_eq_some_iff.1 hj).1
    have he := List.getElem?_eq_getElem hi2
    obtain ⟨p', h1, h2⟩ := hg j _ he
    rw [hj] at h1; cases h1
    obtain ⟨s, r, h5, _⟩ := rowI_some h2
    rw [h5] at he
    have hget : es.getD j [] = [.int .i64 p.1, .int .i64 p.2, .str s, .flt .f64 r] := by rw [List.getD_eq_getElem?_getD, he]; rfl
    simp only [hget]
    obtain ⟨u0, g0, k0⟩ := hc j 0 _ _ he rfl
    obtain ⟨u1, g1, k1⟩ := hc j 1 _ _ he rfl
    obtain ⟨u2, g2, k2⟩ := hc j 2 _ _ he rfl
    obtain ⟨u3, g3, k3⟩ := hc j 3 _ _ he rfl
    cases k0; cases k1; cases k2; cases k3
    exact ⟨g0, g1, g2, g3⟩
  · have hi2 : j < es.length := by rw [← hl]; exact (List.getElem?_eq_some_iff.1 hj).1
    have he := List.getElem?_eq_getElem hi2
    obtain ⟨p', h1, h2⟩ := hg j _ he
    rw [hj] at h1; cases h1
    obtain ⟨s, r, h5, _⟩ := rowI_some h2
    rw [h5] at he
    have hget : es.getD j [] = [.int .i64 p.1, .int .i64 p.2, .str s, .flt .f64 r] := by rw [List.getD_eq_getElem?_getD, he]; rfl
    simp only [hget]
    exact he
theorem argsRel1 {w : World} {ok : Nat → Prop} {x0 : IV} {args : List Value} (h : ArgsRel w ok [[x0]] args) : ∃ v0, args = [v0] ∧ RV w ok x0 v0 := by
  obtain ⟨hl, hr⟩ := h
  match args, hl with
  | [v0], _ =>
    rcases hr 0 _ _ rfl rfl with ⟨y, e, h⟩ | ⟨h, _⟩
    · cases e; exact ⟨v0, rfl, h⟩
    · simp at h
theorem oneB_some {O : List (List IV) → Option (List IV)} {e : List IV} {b : Bool} (h : oneB O e = some b) : O [e] = some [.bool b] := by
  unfold oneB at h
  split at h
  · rename_i c hc; cases h; exact hc
  · cases h
/-- tree.One's contract, met at a row. -/
theorem one_calls {P : Program} {one : FuncId} {sc : Bool} {O : List (List IV) → Option (List IV)} (hO : SigOK P one ⟨.pure, sc, [1], 0, O⟩) (p : Int × Int) (s : ByteArray) (f : Nat) (b : Bool) (h : O [[.int .i64 p.1, .int .i64 p.2, .str s, .flt .f64 f]] = some [.bool b]) (W : World) :
    Calls P one #[.agg #[.int .i64 p.1, .int .i64 p.2, .string s, .float .f64 f]] W fun e W' => e = .returned (.bool b) ∧ Below W.heap.size W W' := by
  refine (hO.1 W (fun _ => False) W (fun _ => False) [[.int .i64 p.1, .int .i64 p.2, .str s, .flt .f64 f]] [.agg #[.int .i64 p.1, .int .i64 p.2, .string s, .float .f64 f]] _ ?_ (fun b hb => hb.elim) ?_ h).mono ?_
  · exact Keeps.refl _ _
  · refine ⟨rfl, fun i c v hc hv => ?_⟩
    match i, hc, hv with
    | 0, hc, hv =>
      cases hc; cases hv
      refine .inr ⟨by simp, _, rfl, rfl, fun i x u hx hu => ?_⟩
      match i, hx, hu with
      | 0, hx, hu => cases hx; cases hu; exact .int _ _
      | 1, hx, hu => cases hx; cases hu; exact .int _ _
      | 2, hx, hu => cases hx; cases hu; exact .str _
      | 3, hx, hu => cases hx; cases hu; exact .flt _ _
      | (k + 4), hx, _ => simp at hx
    | (k + 1), hc, _ => simp at hc
  · rintro e W' ⟨v, rfl, hB, (⟨_, hv⟩ | ⟨h2, _⟩)⟩
    · have : RV W' (okNew W (fun _ => False) W') (.bool b) v := hv
      cases this
      exact ⟨rfl, hB⟩
    · simp at h2
theorem sig_of_may {P : Program} {g one : FuncId} {sc : Bool} {O : List (List IV) → Option (List IV)} (hO : SigOK P one ⟨.pure, sc, [1], 0, O⟩)
    (H : ∀ (w : World) (A : Option Addr) (b off cap : Nat) (ps : List (Int × Int)) (ss : Nat → ByteArray) (fs : Nat → Nat) (ob : Nat → Bool), (0 < ps.length → A = some ⟨b, off, none⟩) → (0 < ps.length → b < w.heap.size) → ps.length ≤ 2 ^ 40 →
      (∀ p ∈ ps, (Lit.int .i64 p.1).wf = true ∧ (Lit.int .i64 p.2).wf = true) → RowsAt w b off ps ss fs →
      (∀ (j : Nat) (p : Int × Int) (W : World), ps[j]? = some p → Calls P one #[.agg #[.int .i64 p.1, .int .i64 p.2, .string (ss j), .float .f64 (fs j)]] W fun e W' => e = .returned (.bool (ob j)) ∧ Below W.heap.size W W') →
      Calls P g #[.slice A ps.length cap] w fun e W' => e = .returned (.bool (mayQ ob ps)) ∧ Below w.heap.size w W') :
    SigOK P g ⟨.pure, true, [1], 0, fun l => match l with | [[x0]] => mayS O x0 | _ => none⟩ := by
  have hS : ∀ x0 r, mayS O x0 = some r → ∃ es ps bs, x0 = .lst es ∧ es.length ≤ 2 ^ 40 ∧ es.mapM rowI = some ps ∧ es.mapM (oneB O) = some bs ∧ r = [.bool (mayQ (fun i => bs.getD i false) ps)] := by
    intro x0 r h
    unfold mayS at h
    split at h
    · split at h
      · rename_i hw
        obtain ⟨ps, h1, h2⟩ := Option.bind_eq_some_iff.1 h
        obtain ⟨bs, h3, h4⟩ := Option.map_eq_some_iff.1 h2
        exact ⟨_, ps, bs, rfl, hw, h1, h3, h4.symm⟩
      · cases h
    · cases h
  refine ⟨fun W OK w ok ags args r hk hok hargs hr => ?_, fun _ ags r hr x hx => ?_⟩
  · dsimp only at hr ⊢
    split at hr
    · rename_i x0
      obtain ⟨es, ps, bs, rfl, hmax, hps, hbs, rfl⟩ := hS _ _ hr
      obtain ⟨v0, rfl, r0⟩ := argsRel1 hargs
      obtain ⟨A, cap, bb, off, ss, fs, rfl, hA, hb, hwf, hat, hes⟩ := rows_at2 hok r0 hps
      refine (H w A bb off cap ps ss fs (fun i => bs.getD i false) hA hb (by rw [mapM_len hps]; exact hmax) hwf hat fun j p W hj => ?_).mono ?_
      · have he := hes j p hj
        obtain ⟨c, h1, h2⟩ := (mapM_at hbs).2 j _ he
        have h3 := oneB_some h2
        have h4 : bs.getD j false = c := by rw [List.getD_eq_getElem?_getD, h1]; rfl
        rw [h4]
        exact one_calls hO p _ _ c h3 W
      · rintro e W' ⟨rfl, hB⟩
        exact ⟨_, rfl, hB, .inl ⟨rfl, .bool _⟩⟩
    · cases hr
  · dsimp only at hr
    split at hr
    · obtain ⟨es, ps, bs, rfl, hmax, hps, hbs, rfl⟩ := hS _ _ hr
      simp only [List.mem_singleton] at hx; subst hx; rfl
    · cases hr
end Go.AM

/- Contracts by hand: a deletion out of a slice, off walks of its two roads. -/
set_option linter.unusedVariables false
set_option linter.unusedSimpArgs false
namespace Go.AM
open Go.RowKit

theorem step_append_runI {P : Program} {ops : Array Oper} {o : Oper} {a : Act} {w : World} {K : Act → World → Prop} {Q : Exit → Act → World → Prop} {E : Prop}
    (hg : o.guard = none) (d x : Operand) (dT sT : TypeId) (hop : o.op = Op.call { callee := Callee.builtin Builtin.append, args := #[d, x], argTypes := #[dT, sT] })
    (v u : Value) (hd : a.eval d = v) (hx : a.eval x = u) {v' : Value} {w' : World} (hr : (Builtin.append_ #[dT, sT] o.type #[v, u]).run P w = .ok v' w') (hK : K (a.put o.dst v') w') :
    if Region.wanted o (yielded ops a.tmps) = true then Oper.wp P o a w K Q else E := by
  have hw : Region.wanted o (yielded ops a.tmps) = true := by simp [Region.wanted, hg]
  rw [if_pos hw]
  unfold Oper.wp
  simp [execOp, hop, resolve, invoke, builtin, hd, hx, hr, Result.andThen]
  exact hK

/-- What is told of the walks at one element type. -/
structure DeleteWalks (P : Program) (g : FuncId) (t : TypeId) (sz : Nat) : Prop where
  same : ∀ (w : World) (A : Option Addr) (n c i : Nat), i ≤ n → n ≤ c → Calls P g #[.slice A n c, .int .i64 i, .int .i64 i] w fun e w' => e = .returned (.slice A n c) ∧ w' = w
  cut : ∀ (w : World) (b off n c i j : Nat), i < j → j ≤ n → n ≤ c → n ≤ 2 ^ 40 → ∀ (w1 w2 : World),
    (Builtin.append_ #[t, t] t #[.slice (some ⟨b, off, none⟩) i c, .slice (if c = j then some ⟨b, off, none⟩ else some ⟨b, off + j * sz, none⟩) (n - j) (c - j)]).run P w.drew = .ok (.slice (some ⟨b, off, none⟩) (i + (n - j)) c) w1 →
    (∀ ty, (Builtin.clear_ #[t] ty #[.slice (some ⟨b, off + (i + (n - j)) * sz, none⟩) (n - (i + (n - j))) (c - (i + (n - j)))]).run P w1 = .ok (.tuple #[]) w2) →
    Calls P g #[.slice (some ⟨b, off, none⟩) n c, .int .i64 i, .int .i64 j] w fun e w' => e = .returned (.slice (some ⟨b, off, none⟩) (i + (n - j)) c) ∧ w' = w2

theorem deleteS_some {x i j : IV} {r : List IV} (h : deleteS x i j = some r) : ∃ es a b, x = .lst es ∧ i = .int .i64 ((a : Nat) : Int) ∧ j = .int .i64 ((b : Nat) : Int) ∧ a ≤ b ∧ b ≤ es.length ∧ es.length ≤ 2 ^ 40 ∧ r = [.lst (es.take a ++ es.drop b)] := by
  unfold deleteS at h
  split at h
  · rename_i es i j
    split at h
    · rename_i hc
      cases h
      obtain ⟨h0, h1, h2, h3⟩ := hc
      refine ⟨es, i.toNat, j.toNat, rfl, by rw [Int.toNat_of_nonneg h0], by rw [Int.toNat_of_nonneg (by omega)], by omega, by omega, h3, rfl⟩
    · cases h
  · cases h
theorem Rows.take {w : World} {ok : Nat → Prop} {es : List (List IV)} {sz k : Nat} {us : List Value} (h1 : Rows w ok es sz us) (he : ∀ e ∈ es, e.length = sz) (hk : k ≤ es.length) : Rows w ok (es.take k) sz (us.take (k * sz)) := by
  refine ⟨?_, fun v hv => h1.2.1 v (List.mem_of_mem_take hv), fun i j e x hi hj => ?_⟩
  · simp only [List.length_take, h1.1, Nat.min_eq_left hk]
    exact Nat.min_eq_left (Nat.mul_le_mul_right _ hk)
  · have hik : i < k := by have := (List.getElem?_eq_some_iff.1 hi).1; simp at this; omega
    rw [List.getElem?_take_of_lt hik] at hi
    have hjl : j < sz := by rw [← he e (List.mem_of_getElem? hi)]; exact (List.getElem?_eq_some_iff.1 hj).1
    obtain ⟨v, hv, hr⟩ := h1.2.2 i j e x hi hj
    exact ⟨v, by rw [List.getElem?_take_of_lt (row_lt hik hjl)]; exact hv, hr⟩
theorem Rows.drop {w : World} {ok : Nat → Prop} {es : List (List IV)} {sz k : Nat} {us : List Value} (h1 : Rows w ok es sz us) : Rows w ok (es.drop k) sz (us.drop (k * sz)) := by
  refine ⟨?_, fun v hv => h1.2.1 v (List.mem_of_mem_drop hv), fun i j e x hi hj => ?_⟩
  · simp only [List.length_drop, h1.1, Nat.sub_mul]
  · rw [List.getElem?_drop] at hi
    obtain ⟨v, hv, hr⟩ := h1.2.2 (k + i) j e x hi hj
    exact ⟨v, by rw [List.getElem?_drop, ← Nat.add_assoc, ← Nat.add_mul]; exact hv, hr⟩
theorem cons_here {w w' : World} {ok : Nat → Prop} {sz : Nat} {b base : Nat} {es : List (List IV)} {us : List Value} {c2 : Nat} {c0 c : Array Value} {T : TypeId} (hnok : ¬ ok b)
    (hos : w'.os = w.os) (htp : w'.tape = w.tape) (hout : w'.output = w.output) (hsize : w'.heap.size = w.heap.size) (hold : ∀ b', b' ≠ b → w'.heap[b']? = w.heap[b']?) (hw0 : w.heap[b]? = some (.cells c0 T (0, 0))) (hw : w'.heap[b]? = some (.cells c T (0, 0))) (hcs : c.size = c0.size)
    (he : ∀ e ∈ es, e.length = sz) (h1 : Rows w ok es sz us) (g1 : ∀ q, q < us.length → c[base + q]? = us[q]?) (hcap : es.length ≤ c2) (hroom : base + c2 * sz ≤ c0.size) {n : Nat} (hn : es.length = n) (hpos : 0 < sz := by assumption) :
    ConsEnd w ok sz (some (b, base)) es (.returned (.slice (some ⟨b, base, none⟩) n c2)) w' := by
  have hkeep : Keeps w ok w' ok := ⟨fun b' hb => hold b' fun e => hnok (e ▸ hb), fun _ h => h⟩
  refine ⟨_, ⟨some (b, base), n, sz⟩, rfl, hos, htp, hout, by omega, fun b' c' T' hb => ?_, fun b' hb hne => hold b' fun e => hne base (by rw [e]), ?_, fun b' base' hb => ?_⟩
  · by_cases e : b' = b
    · subst e
      rw [hw0] at hb; cases hb
      exact ⟨c, hw, hcs⟩
    · exact ⟨c', by rw [hold b' e]; exact hb, rfl⟩
  · exact own_done hw he (h1.later hkeep) g1 hn (by omega) (by omega)
  · cases hb
    exact .inr ⟨base, rfl⟩
theorem clear_run {P : Program} {w : World} {t e : TypeId} (hu : P.underlying t = some (.slice e)) (hel : elemOK P e = true) (hz1 : (match zeroT P e with | some z => z.cells.all (·.oneCell') | none => false) = true) {b o n c : Nat} (hn : 0 < n) {cs : Array Value} {T : TypeId} (hw : w.heap[b]? = some (.cells cs T (0, 0))) (hroom : o + n * P.cellsOf e ≤ cs.size) :
    ∃ zs : List Value, zs.length = n * P.cellsOf e ∧ ∀ ty, (Builtin.clear_ #[t] ty #[.slice (some ⟨b, o, none⟩) n c]).run P w = .ok (.tuple #[]) (w.setRow b (splice cs.toList o zs).toArray) := by
  obtain ⟨i, z, hi, hz, hzs, hpos, _, _⟩ := elemOK_spec hel
  have hzt : zeroT P e = some z := by unfold zeroT; rw [hi]; exact hz
  rw [hzt] at hz1
  have hzv : ∀ w' : World, (zeroValue e).run P w' = .ok z w' := fun w' => by simp [zeroValue, run_typeInfo w' hi, hz]
  have hl : (Builtin.zeroCells z.cells n).toList.length = n * P.cellsOf e := by simp [zeroCells_size, hzs]
  refine ⟨(Builtin.zeroCells z.cells n).toList, hl, fun ty => ?_⟩
  have h1 : ∀ v ∈ (Builtin.zeroCells z.cells n).toList, v.oneCell' = true := by
    intro v hv
    simp only [Builtin.zeroCells, Array.toList_map, List.mem_map, Array.toList_range] at hv
    obtain ⟨q, hq, rfl⟩ := hv
    have hqs : q % z.cells.size < z.cells.size := Nat.mod_lt _ (by omega)
    rw [getElem!_pos z.cells _ hqs]
    rw [Array.all_eq_true] at hz1
    exact hz1 _ hqs
  have hst := run_storeCells_at (P := P) b o T (Builtin.zeroCells z.cells n).toList 0 cs w hw (by omega) h1
  simp only [Nat.add_zero] at hst
  obtain ⟨m, rfl⟩ : ∃ m, n = m + 1 := ⟨n - 1, by omega⟩
  simp only [Builtin.clear_, Sem.run_bind, run_underlying hu, Result.andThen_ok, List.getElem?_toArray, List.getElem?_cons_zero, hzv]
  rw [hst]
  rfl

theorem cons_of_delete {P : Program} {g : FuncId} {t e : TypeId} {sz : Nat} (h0 : P.underlying t = some (.slice e)) (hel : elemOK P e = true) (hsz : P.cellsOf e = sz) (hz1 : (match zeroT P e with | some z => z.cells.all (·.oneCell') | none => false) = true) (W : DeleteWalks P g t sz) :
    SigOK P g ⟨.cons, false, [1], sz, fun l => match l with | [[x0], [x1], [x2]] => deleteS x0 x1 x2 | _ => none⟩ := by
  obtain ⟨ii, zz, hii, hzz, hzs, hpos, hisz, hbt⟩ := elemOK_spec hel
  rw [hsz] at hpos hzs hisz
  unfold SigOK
  simp only
  intro w ok ags x v0 pl args r hok hown hnok hargs hr
  split at hr
  · rename_i x0 x1 x2 heq
    obtain ⟨rfl, rfl⟩ : x = x0 ∧ ags = [[x1], [x2]] := by simpa using heq
    obtain ⟨es, i, j, rfl, rfl, rfl, hij, hj, hmax, rfl⟩ := deleteS_some hr
    obtain ⟨hl, hrel⟩ := hargs
    match args, hl with
    | [v1, v2], _ =>
    have hv1 : v1 = .int .i64 ((i : Nat) : Int) := by
      rcases hrel 0 _ v1 rfl rfl with ⟨y, e1, h1⟩ | ⟨h1, _⟩
      · cases e1; cases h1; rfl
      · simp at h1
    have hv2 : v2 = .int .i64 ((j : Nat) : Int) := by
      rcases hrel 1 _ v2 rfl rfl with ⟨y, e1, h1⟩ | ⟨h1, _⟩
      · cases e1; cases h1; rfl
      · simp at h1
    subst hv1 hv2
    obtain ⟨hob, A, c, rfl, hh, hc⟩ := hown
    have hown : OwnVal w ok sz (.lst es) (.slice A pl.len c) pl := ⟨hob, A, c, rfl, hh, hc⟩
    obtain ⟨loc, n, sz'⟩ := pl
    obtain ⟨hplsz, es0, he0, hlen, hall, hnone, hcell⟩ := hob.arrN (fun _ h => by cases h)
    cases he0
    simp only at hplsz hlen hnone hcell hh hc hnok hown ⊢
    subst hplsz
    subst hlen
    show Calls P g #[.slice A es.length c, .int .i64 (i : Int), .int .i64 (j : Int)] w (ConsEnd w ok sz' loc (es.take i ++ es.drop j))
    by_cases heq : i = j
    · subst heq
      refine (W.same w A es.length c i hj hh.1).mono ?_
      rintro e' w' ⟨rfl, rfl⟩
      rw [List.take_append_drop]
      exact ⟨_, ⟨loc, es.length, sz'⟩, rfl, rfl, rfl, rfl, Nat.le_refl _, .refl _, fun _ _ _ => rfl, hown, fun b base hb => .inr ⟨base, hb⟩⟩
    have hlt : i < j := by omega
    have hc0 : c ≠ 0 := by have := hh.1; omega
    rcases hh.2 with ⟨_, h1⟩ | ⟨b, base, hloc, hA⟩
    · exact absurd h1 hc0
    simp only at hloc
    subst hloc
    simp only [Nat.zero_mul, Nat.add_zero] at hA
    subst hA
    obtain ⟨c1, T, hw, hroom1, hrelc⟩ := hcell b base rfl
    obtain ⟨c1', T', hw', hroom⟩ := hc b base rfl
    rw [hw] at hw'; cases hw'
    have hbnok := hnok b base rfl
    have hblt : b < w.heap.size := (Array.getElem?_eq_some_iff.1 hw).1
    have hold : ∃ us, Rows w ok es sz' us ∧ ∀ q, q < us.length → c1[base + q]? = us[q]? := by
      have iq : InvQ w ok (fun q => if q = 0 then some ⟨some (b, base), es.length, sz'⟩ else none) [.arr .rw sz' (.lst es)] := by
        refine ⟨hok, fun o pl ho => ?_, fun o pl b' base' ho hl => ?_⟩
        · split at ho
          · rename_i e; subst e; cases ho
            exact .inl ⟨by assumption, rfl, es, rfl, rfl, hall, hnone, hcell⟩
          · cases ho
        · split at ho
          · cases ho; cases hl; exact hblt
          · cases ho
      obtain ⟨A2, cap2, us, hv, h1, h2⟩ := src_rows iq (p := .buf 0 es.length) (v := .slice (some ⟨b, base, none⟩) es.length c) (.buf 0 es.length _ c ⟨some (b, base), es.length, sz'⟩ rfl rfl hh hc) (ys := es) rfl hpos hall
      obtain ⟨rfl, _, rfl⟩ := Value.slice.inj hv
      refine ⟨us, h1, fun q hq => ?_⟩
      obtain ⟨ad2, e2, h3⟩ := h2 (by omega)
      cases e2
      have := h3 q us[q] (List.getElem?_eq_getElem hq)
      rw [add_off, cell_at hw] at this
      rw [this, List.getElem?_eq_getElem hq]
    obtain ⟨us, hus, hcells⟩ := hold
    have hulen := hus.1
    have hl0 : c1.toList.length = c1.size := by simp
    have hcm : es.length * sz' ≤ c * sz' := Nat.mul_le_mul_right _ hh.1
    have hdl : (us.drop (j * sz')).length = (es.length - j) * sz' := by rw [List.length_drop, hulen, Nat.sub_mul]
    have hjs : j * sz' ≤ es.length * sz' := Nat.mul_le_mul_right _ hj
    have his : i * sz' ≤ j * sz' := Nat.mul_le_mul_right _ hij
    have hsub : (es.length - j) * sz' = es.length * sz' - j * sz' := Nat.sub_mul _ _ _
    have hwd : w.drew.heap[b]? = some (.cells c1 T (0, 0)) := hw
    have hn1 : (i + (es.length - j)) * sz' = i * sz' + (es.length - j) * sz' := Nat.add_mul _ _ _
    have hn2 : (es.length - (i + (es.length - j))) * sz' = es.length * sz' - (i + (es.length - j)) * sz' := Nat.sub_mul _ _ _
    have hle1 : base + i * sz' + (us.drop (j * sz')).length ≤ c1.toList.length := by omega
    have happ := append_fits (P := P) (w := w.drew) (ats := #[t, t]) (ty := t) rfl h0 h0 (by rw [hsz]; exact hpos) (A := some ⟨b, base, none⟩) (A' := if c = j then some ⟨b, base, none⟩ else some ⟨b, base + j * sz', none⟩) (n := i) (cap := c) (m := es.length - j) (cap' := c - j) (vs := us.drop (j * sz')) (by rw [hsz]; exact hdl)
      (fun h => ⟨⟨b, base + j * sz', none⟩, by rw [if_neg (by have := hh.1; omega)], fun q u hq => by
        rw [add_off, cell_at hwd, Nat.add_assoc]
        rw [List.getElem?_drop] at hq
        rw [hcells _ (List.getElem?_eq_some_iff.1 hq).1]; exact hq⟩) (fun v hv => hus.2.1 v (List.mem_of_mem_drop hv)) (by have := hh.1; omega) rfl hwd (by rw [hsz, ← hl0]; exact hle1)
    rw [hsz] at happ
    have hs1 : (splice c1.toList (base + i * sz') (us.drop (j * sz'))).toArray.size = c1.size := by rw [List.size_toArray, splice_length hle1, hl0]
    have hwr := wrote_setRow (w := w.drew) (c' := (splice c1.toList (base + i * sz') (us.drop (j * sz'))).toArray) hwd hs1
    obtain ⟨zs, hzl, hclr2⟩ := clear_run (P := P) (w := w.drew.setRow b (splice c1.toList (base + i * sz') (us.drop (j * sz'))).toArray) (t := t) h0 hel hz1 (b := b) (o := base + (i + (es.length - j)) * sz') (n := es.length - (i + (es.length - j))) (c := c - (i + (es.length - j))) (by omega) hwr.now (by rw [hs1, hsz]; omega)
    rw [hsz] at hzl
    have hle2 : base + (i + (es.length - j)) * sz' + zs.length ≤ (splice c1.toList (base + i * sz') (us.drop (j * sz'))).length := by rw [splice_length hle1]; omega
    have hs2 : (splice (splice c1.toList (base + i * sz') (us.drop (j * sz'))) (base + (i + (es.length - j)) * sz') zs).toArray.size = (splice c1.toList (base + i * sz') (us.drop (j * sz'))).toArray.size := by rw [List.size_toArray, splice_length hle2, List.size_toArray]
    have hwr2 := wrote_setRow (c' := (splice (splice c1.toList (base + i * sz') (us.drop (j * sz'))) (base + (i + (es.length - j)) * sz') zs).toArray) hwr.now hs2
    refine (W.cut w b base es.length c i j hlt hj hh.1 hmax _ _ happ hclr2).mono ?_
    rintro e' w' ⟨rfl, rfl⟩
    have hR : Rows w ok (es.take i ++ es.drop j) sz' (us.take (i * sz') ++ us.drop (j * sz')) := (hus.take hall (by omega)).append hus.drop fun e he => hall e (List.mem_of_mem_take he)
    have htl : (us.take (i * sz')).length = i * sz' := by rw [List.length_take]; omega
    have hel2 : (es.take i ++ es.drop j).length = i + (es.length - j) := by simp; omega
    refine cons_here (w := w) (w' := (w.drew.setRow b (splice c1.toList (base + i * sz') (us.drop (j * sz'))).toArray).setRow b (splice (splice c1.toList (base + i * sz') (us.drop (j * sz'))) (base + (i + (es.length - j)) * sz') zs).toArray) (c := (splice (splice c1.toList (base + i * sz') (us.drop (j * sz'))) (base + (i + (es.length - j)) * sz') zs).toArray) hbnok rfl rfl rfl (hwr2.size.trans hwr.size) (fun b' hb' => (hwr2.other b' hb').trans (hwr.other b' hb')) hw hwr2.now (hs2.trans hs1) ?_ hR ?_ (by rw [hel2]; have := hh.1; omega) hroom hel2
    · intro e he
      rcases List.mem_append.1 he with h | h
      · exact hall e (List.mem_of_mem_take h)
      · exact hall e (List.mem_of_mem_drop h)
    · intro q hq
      rw [List.length_append, htl, hdl] at hq
      rw [sp_out hle2 (.inl (by omega))]
      by_cases hq1 : q < i * sz'
      · rw [splice_out hle1 (.inl (by omega)), List.getElem?_append_left (by omega), List.getElem?_take_of_lt hq1, Array.getElem?_toList]
        exact hcells q (by omega)
      · rw [List.getElem?_append_right (by omega), htl, show base + q = base + i * sz' + (q - i * sz') by omega, splice_in hle1 (by omega)]
  · cases hr
end Go.AM

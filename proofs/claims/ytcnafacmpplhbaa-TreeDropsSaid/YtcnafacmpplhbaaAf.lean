/- Sorting that keeps the order of equals, plainly: lists. -/
import Derived.Sort.LotA
import Derived.Test.YtcnafacmpplhbaaAe
set_option linter.unusedVariables false
set_option linter.unusedSimpArgs false
namespace Go.AM
open Go.Sort
section
variable {α : Type} (lt : α → α → Bool)
/-- Put in, behind all that it is not less than. -/
def ins (x : α) : List α → List α
  | [] => [x]
  | y :: l => if lt x y = true then x :: y :: l else y :: ins x l
/-- Those of the second list are put in, one by one. -/
def mg (L R : List α) : List α := R.foldl (fun acc x => ins lt x acc) L
def isrt (l : List α) : List α := mg lt [] l
def Srt (l : List α) : Prop := l.Pairwise fun x y => lt y x = false
end
variable {α : Type} {lt : α → α → Bool}
theorem mg_nil (L : List α) : mg lt L [] = L := rfl
theorem mg_cons (L R : List α) (x : α) : mg lt L (x :: R) = mg lt (ins lt x L) R := rfl
theorem mg_app (L R S : List α) : mg lt L (R ++ S) = mg lt (mg lt L R) S := List.foldl_append
theorem mg_snoc (L R : List α) (x : α) : mg lt L (R ++ [x]) = ins lt x (mg lt L R) := by rw [mg_app]; rfl
theorem ins_left (x : α) : ∀ (A B : List α), (∀ y ∈ B, lt x y = true) → ins lt x (A ++ B) = ins lt x A ++ B
  | [], [], _ => rfl
  | [], b :: B, h => by simp [ins, h b (by simp)]
  | a :: A, B, h => by
    simp only [List.cons_append, ins]
    split
    · rfl
    · rw [ins_left x A B h]; rfl
theorem ins_right (x : α) : ∀ (A B : List α), (∀ y ∈ A, lt x y = false) → ins lt x (A ++ B) = A ++ ins lt x B
  | [], B, _ => rfl
  | a :: A, B, h => by
    have h1 := h a (by simp)
    simp only [List.cons_append, ins, h1]
    rw [ins_right x A B fun y hy => h y (by simp [hy])]
    simp
theorem mem_ins (x z : α) : ∀ (l : List α), z ∈ ins lt x l ↔ z = x ∨ z ∈ l
  | [] => by simp [ins]
  | y :: l => by
    simp only [ins]
    split
    · simp
    · simp only [List.mem_cons, mem_ins x z l]
      constructor
      · rintro (h | h | h) <;> simp [h]
      · rintro (h | h | h) <;> simp [h]
theorem mem_mg (z : α) : ∀ (R L : List α), z ∈ mg lt L R ↔ z ∈ L ∨ z ∈ R
  | [], L => by simp [mg]
  | x :: R, L => by
    rw [mg_cons, mem_mg z R, mem_ins]
    simp only [List.mem_cons]
    constructor
    · rintro ((h | h) | h) <;> simp [h]
    · rintro (h | h | h) <;> simp [h]
theorem length_ins (x : α) : ∀ (l : List α), (ins lt x l).length = l.length + 1
  | [] => rfl
  | y :: l => by
    simp only [ins]
    split
    · rfl
    · simp [length_ins x l]
theorem length_mg : ∀ (R L : List α), (mg lt L R).length = L.length + R.length
  | [], L => rfl
  | x :: R, L => by rw [mg_cons, length_mg R, length_ins]; simp; omega
theorem length_isrt (l : List α) : (isrt lt l).length = l.length := by rw [isrt, length_mg]; simp
theorem mem_isrt (z : α) (l : List α) : z ∈ isrt lt l ↔ z ∈ l := by rw [isrt, mem_mg]; simp
theorem mg_left (L1 L2 : List α) : ∀ (R : List α), (∀ r ∈ R, ∀ l ∈ L2, lt r l = true) → mg lt (L1 ++ L2) R = mg lt L1 R ++ L2 := by
  intro R
  induction R generalizing L1 with
  | nil => intro _; rfl
  | cons r R ih =>
    intro h
    rw [mg_cons, mg_cons, ins_left r L1 L2 (h r (by simp)), ih _ fun r hr => h r (by simp [hr])]
theorem mg_right (L1 L2 : List α) : ∀ (R : List α), (∀ r ∈ R, ∀ l ∈ L1, lt r l = false) → mg lt (L1 ++ L2) R = L1 ++ mg lt L2 R := by
  intro R
  induction R generalizing L2 with
  | nil => intro _; rfl
  | cons r R ih =>
    intro h
    rw [mg_cons, mg_cons, ins_right r L1 L2 (h r (by simp)), ih _ fun r hr => h r (by simp [hr])]
/-- Two merges at once: the first ones of the right are below the last ones of the left. -/
theorem mg_split (L1 L2 R1 R2 : List α) (h1 : ∀ r ∈ R1, ∀ l ∈ L2, lt r l = true) (h2 : ∀ r ∈ R2, ∀ l ∈ L1, lt r l = false) (h3 : ∀ r ∈ R2, ∀ l ∈ R1, lt r l = false) :
    mg lt (L1 ++ L2) (R1 ++ R2) = mg lt L1 R1 ++ mg lt L2 R2 := by
  rw [mg_app, mg_left L1 L2 R1 h1, mg_right]
  intro r hr l hl
  rcases (mem_mg l R1 L1).1 hl with h | h
  · exact h2 r hr l h
  · exact h3 r hr l h
theorem ins_comm (hS : SWO lt) (x y : α) (h : lt y x = true) : ∀ (A : List α), ins lt x (ins lt y A) = ins lt y (ins lt x A)
  | [] => by
    have := hS.asymmA h
    simp [ins, h, this]
  | z :: A => by
    have hxy := hS.asymmA h
    by_cases c1 : lt x z = true
    · have c2 := hS.trans y x z h c1
      simp [ins, c1, c2, h, hxy]
    · by_cases c2 : lt y z = true
      · simp [ins, c1, c2, h, hxy]
      · simp [ins, c1, c2, ins_comm hS x y h A]
theorem mg_ins_head (hS : SWO lt) (x : α) : ∀ (l A : List α), (∀ z ∈ l, lt x z = true) → mg lt (ins lt x A) l = ins lt x (mg lt A l)
  | [], A, _ => rfl
  | z :: l, A, h => by
    rw [mg_cons, mg_cons, ← mg_ins_head hS x l _ fun z hz => h z (by simp [hz]), ins_comm hS z x (h z (by simp))]
theorem swo_of_le (hS : SWO lt) {x y z : α} (h1 : lt x y = true) (h2 : lt z y = false) : lt x z = true := by
  cases h : lt x z with
  | true => rfl
  | false =>
    have := hS.ntrans x z y h h2
    rw [h1] at this
    cases this
theorem mg_ins (hS : SWO lt) (x : α) : ∀ (l A : List α), Srt lt l → mg lt A (ins lt x l) = ins lt x (mg lt A l)
  | [], A, _ => rfl
  | y :: l, A, h => by
    unfold Srt at h
    rw [List.pairwise_cons] at h
    simp only [ins]
    split
    · rename_i c
      rw [mg_cons, mg_ins_head hS x]
      intro z hz
      rcases List.mem_cons.1 hz with rfl | hz
      · exact c
      · exact swo_of_le hS c (h.1 z hz)
    · rw [mg_cons, mg_cons, mg_ins hS x l _ h.2]
theorem srt_ins (hS : SWO lt) (x : α) : ∀ (l : List α), Srt lt l → Srt lt (ins lt x l)
  | [], _ => by simp [ins, Srt]
  | y :: l, h => by
    have h0 := h
    unfold Srt at h
    rw [List.pairwise_cons] at h
    simp only [ins]
    split
    · rename_i c
      refine List.pairwise_cons.2 ⟨fun z hz => ?_, h0⟩
      rcases List.mem_cons.1 hz with rfl | hz
      · exact hS.asymmA c
      · exact hS.asymmA (swo_of_le hS c (h.1 z hz))
    · rename_i c
      refine List.pairwise_cons.2 ⟨fun z hz => ?_, srt_ins hS x l h.2⟩
      rcases (mem_ins x z l).1 hz with rfl | hz
      · simpa using c
      · exact h.1 z hz
theorem srt_mg (hS : SWO lt) : ∀ (R L : List α), Srt lt L → Srt lt (mg lt L R)
  | [], L, h => h
  | x :: R, L, h => by rw [mg_cons]; exact srt_mg hS R _ (srt_ins hS x L h)
theorem srt_isrt (hS : SWO lt) (l : List α) : Srt lt (isrt lt l) := srt_mg hS l [] List.Pairwise.nil
theorem isrt_snoc (l : List α) (x : α) : isrt lt (l ++ [x]) = ins lt x (isrt lt l) := mg_snoc _ _ _
theorem snocI {p : List α → Prop} (h0 : p []) (h1 : ∀ l x, p l → p (l ++ [x])) (l : List α) : p l := by
  have : ∀ n (l : List α), l.length = n → p l := by
    intro n
    induction n with
    | zero => intro l hl; rw [List.length_eq_zero_iff] at hl; rw [hl]; exact h0
    | succ n ih =>
      intro l hl
      have hne : l ≠ [] := by intro e; rw [e] at hl; simp at hl
      rw [← List.dropLast_concat_getLast hne]
      exact h1 _ _ (ih _ (by simp [hl]))
  exact this _ l rfl
theorem mg_isrt (hS : SWO lt) (A l : List α) : mg lt A (isrt lt l) = mg lt A l := by
  induction l using snocI with
  | h0 => rfl
  | h1 l x ih => rw [isrt_snoc, mg_ins hS x _ A (srt_isrt hS l), ih, mg_snoc]
theorem isrt_app (hS : SWO lt) (L R : List α) : isrt lt (L ++ R) = mg lt (isrt lt L) (isrt lt R) := by
  rw [mg_isrt hS]; exact mg_app _ _ _
theorem isrt_of_srt (l : List α) (h : Srt lt l) : isrt lt l = l := by
  induction l using snocI with
  | h0 => rfl
  | h1 l x ih =>
    have h' := h
    unfold Srt at h
    rw [List.pairwise_append] at h
    rw [isrt_snoc, ih h.1]
    have := ins_right (lt := lt) x l [] fun y hy => h.2.2 y hy x (by simp)
    simpa [ins] using this
/-- From the right: as far down as it is less. -/
theorem ins_of_split (x : α) (A B : List α) (hA : ∀ y ∈ A, lt x y = false) (hB : ∀ y ∈ B, lt x y = true) : ins lt x (A ++ B) = A ++ x :: B := by
  rw [ins_right x A B hA]
  cases B with
  | nil => rfl
  | cons b B => simp [ins, hB b (by simp)]
end Go.AM
/- What sorting a row of structs hands back, on pure values. -/
set_option linter.unusedVariables false
namespace Go.AM
/-- A row of a tree, as cells. -/
structure Rv where
  ch : Int
  par : Int
  nm : ByteArray
  rk : Nat
  ok : rk < 2 ^ 64
instance : Inhabited Rv := ⟨⟨0, 0, default, 0, by decide⟩⟩
def encV (r : Rv) : List Value := [.int .i64 r.ch, .int .i64 r.par, .string r.nm, .float .f64 r.rk]
def rvI (r : Rv) : List IV := [.int .i64 r.ch, .int .i64 r.par, .str r.nm, .flt .f64 r.rk]
def rvOf : List IV → Option Rv
  | [.int .i64 c, .int .i64 p, .str s, .flt .f64 r] => if h : r < 2 ^ 64 then some ⟨c, p, s, r, h⟩ else none
  | _ => none
theorem rvOf_rvI (r : Rv) : rvOf (rvI r) = some r := by
  exact dif_pos r.ok
theorem rvOf_some {e : List IV} {r : Rv} (h : rvOf e = some r) : e = rvI r := by
  unfold rvOf at h
  split at h
  · split at h
    · cases h; rfl
    · cases h
  · cases h
/-- The word of a number with a point, and of what is none, one word. -/
def wordN (w : Nat) : Nat := if 2047 * 2 ^ 52 < w % 2 ^ 63 then 9221120237041090560 else w
/-- By which ranks stand. -/
def keyN (w : Nat) : Nat := if 2 ^ 63 ≤ wordN w then 2 ^ 64 - 1 - wordN w else wordN w + 2 ^ 63
def lessV (x y : Rv) : Bool := decide (keyN x.rk < keyN y.rk) || decide (keyN x.rk = keyN y.rk) && decide (x.ch < y.ch)
def cfV (x y : Rv) : Int := if lessV x y = true then -1 else if lessV y x = true then 1 else 0
theorem cfV_lt (x y : Rv) : decide (cfV x y < 0) = lessV x y := by
  unfold cfV
  cases h : lessV x y with
  | true => rfl
  | false =>
    cases lessV y x with
    | true => rfl
    | false => rfl
theorem swo_lessV : Go.Sort.SWO lessV where
  irrefl x := by simp [lessV]
  trans x y z h1 h2 := by
    simp only [lessV, Bool.or_eq_true, Bool.and_eq_true, decide_eq_true_eq] at *
    omega
  ntrans x y z h1 h2 := by
    simp only [lessV, Bool.or_eq_false_iff, Bool.and_eq_false_iff, decide_eq_false_iff_not] at *
    omega
/-- Rows that are sorted in place, by a function of this number. -/
def sortS (kg : Nat) (x f : IV) : Option (List IV) :=
  match x, f with
  | .lst es, .clo (.func g) [] => if g = kg ∧ es.length ≤ 2 ^ 32 then (es.mapM rvOf).map fun l => [.lst ((isrt lessV l).map rvI)] else none
  | _, _ => none
/-- A way up, as long as nobody is met twice. -/
def pathL : List Int → List Int → Option (List Int)
  | out, [] => some out
  | out, x :: l => if out.contains x then none else pathL (out ++ [x]) l
/-- A node's way up, if it ends at Root. -/
def pathQ (f : Int → Option Int) (N : Nat) (c : Int) : Option (List Int) :=
  match pathL [c] (upto f N c) with
  | none => none
  | some out => if out.getLast? = some 0 ∧ (f 0).isNone = true then some out else none
theorem pathL_none : ∀ (l m out : List Int), pathL out l = none → pathL out (l ++ m) = none
  | [], m, out, h => by cases h
  | x :: l, m, out, h => by
    unfold pathL at h
    simp only [List.cons_append]
    unfold pathL
    split
    · rfl
    · rename_i hc
      rw [if_neg hc] at h
      exact pathL_none l m _ h
theorem pathL_snoc : ∀ (l out : List Int) (x : Int), pathL out (l ++ [x]) = (pathL out l).bind fun r => if r.contains x then none else some (r ++ [x])
  | [], out, x => by
    simp only [List.nil_append]
    unfold pathL pathL
    rfl
  | y :: l, out, x => by
    simp only [List.cons_append]
    unfold pathL
    split
    · rfl
    · exact pathL_snoc l _ x
def pathS (x c : IV) : Option (List IV) :=
  match x, c with
  | .lst es, .int .i64 c => if es.length ≤ 50000 ∧ (Lit.int .i64 c).wf = true then (es.mapM rowI).map fun ps => match pathQ (lkp ps) (ksof ps).length c with | some l => [intsI l, .bool true] | none => [.lst [], .bool false] else none
  | _, _ => none
/-- Those that are reached, each once, in order. -/
def reachQ (ps : List (Int × Int)) : List Int := sortI (0 :: (ksof ps).filter fun k => (pathQ (lkp ps) (ksof ps).length k).isSome)
def reachS (x : IV) : Option (List IV) :=
  match x with
  | .lst es => if es.length ≤ 50000 then (es.mapM rowI).map fun ps => [intsI (reachQ ps)] else none
  | _ => none
end Go.AM

/- Marks, plainly. -/
import Derived.Test.YtcnafacmpplhbaaSh
import Derived.Test.YtcnafacmpplhbaaAe
import Derived.Test.YtcnafacmpplhbaaAd
set_option linter.unusedVariables false
set_option linter.unusedSimpArgs false
namespace Go.AM

theorem rounds_eq : rounds = 1000000 := rfl
structure Mark where
  r : Int
  c : Int
  deriving DecidableEq
def eInt (x : Int) : List IV := [.int .i64 x]
abbrev eInts (l : List Int) : IV := .lst (l.map eInt)
theorem at_Int {l : List Int} {i : Nat} {x : Int} (h : l[i]? = some x) : i < l.length ∧ iidx (eInts l) (.int .i64 (i : Int)) 1 = some i ∧ ildN (eInts l) i 0 1 = some [.int .i64 x] ∧ ild (eInts l) i 0 = some (.int .i64 x) ∧ ibidx l.length (.int .i64 (i : Int)) = some i :=
  ⟨(List.getElem?_eq_some_iff.1 h).1, iidx_map h rfl (by decide), ildN_map h rfl, ild_map h, ibidx_lt (List.getElem?_eq_some_iff.1 h).1⟩
/-- The index of the first, or one below 0. -/
def ixI {α : Type} (p : α → Bool) (l : List α) : Int := match l.findIdx? p with | some i => (i : Int) | none => -1
theorem ixI_none {α : Type} {p : α → Bool} {l : List α} (h : l.findIdx? p = none) : ixI p l = -1 := by simp [ixI, h]
theorem ixI_some {α : Type} {p : α → Bool} {l : List α} {i : Nat} (h : l.findIdx? p = some i) : ixI p l = (i : Int) := by simp [ixI, h]
theorem findIdx_get {α : Type} {p : α → Bool} {l : List α} {i : Nat} (h : l.findIdx? p = some i) : ∃ x, l[i]? = some x ∧ p x = true := by
  obtain ⟨hi, hp, _⟩ := List.findIdx?_eq_some_iff_getElem.1 h
  exact ⟨l[i], List.getElem?_eq_getElem hi, hp⟩

/-! ### What they are -/
def getM : List Mark → Int → Int
  | [], _ => 0
  | x :: l, r => if x.r = r then x.c else getM l r
def isR (r : Int) (x : Mark) : Bool := decide (x.r = r)
def hasM (v : List Mark) (r : Int) : Bool := v.any (isR r)
def setM : List Mark → Int → Int → List Mark
  | [], _, _ => []
  | x :: l, c, r => if x.r = r then ⟨x.r, max x.c c⟩ :: l else x :: setM l c r
def insM : List Mark → Int → Int → List Mark
  | [], c, r => [⟨r, c⟩]
  | x :: l, c, r => if r < x.r then ⟨r, c⟩ :: x :: l else x :: insM l c r
def raiseM (v : List Mark) (c r : Int) : List Mark := if hasM v r = true then setM v c r else if c ≤ 0 then v else insM v c r
def joinM (a b : List Mark) : List Mark := b.foldl (fun v x => raiseM v x.c x.r) a
/-! ### The program's -/
end Go.AM
/- Marks, plainly: the other functions, the program's and the references'. -/
set_option linter.unusedVariables false
set_option linter.unusedSimpArgs false
namespace Go.AM

/-! ### Lengths -/
/-! ### Moves -/
structure Mv where
  c : Int
  r : Int
  par : Int
  ch : Int
  nm : ByteArray
  rk : Nat
  deriving DecidableEq
/-! ### The program's -/
/-! ### The references' -/
end Go.AM

/- Marks: typed values; the laws that hold the program against the references. -/
set_option linter.unusedVariables false
set_option linter.unusedSimpArgs false
namespace Go.AM

theorem Typed.one_inv {s : Sh} {cs : List IV} (h : Typed [s] cs) : ∃ c, cs = [c] ∧ ShOK s c := by
  match cs, h.1 with
  | [c], _ => exact ⟨c, rfl, h.2 0 s c rfl rfl⟩
theorem Typed.cons_inv {s : Sh} {l : List Sh} {cs : List IV} (h : Typed (s :: l) cs) : ∃ c cs', cs = c :: cs' ∧ ShOK s c ∧ Typed l cs' := by
  match cs, h.1 with
  | c :: cs', hl => exact ⟨c, cs', rfl, h.2 0 s c rfl rfl, by simpa using hl, fun j s' c' h1 h2 => h.2 (j + 1) s' c' (by simpa using h1) (by simpa using h2)⟩
theorem Typed.nil_inv {cs : List IV} (h : Typed [] cs) : cs = [] := List.length_eq_zero_iff.1 h.1
theorem TypedAll.cons_inv {l : List Sh} {L : List (List Sh)} {cs : List (List IV)} (h : TypedAll (l :: L) cs) : ∃ c cs', cs = c :: cs' ∧ Typed l c ∧ TypedAll L cs' := by
  cases h with
  | cons h t => exact ⟨_, _, rfl, h, t⟩
theorem TypedAll.nil_inv {cs : List (List IV)} (h : TypedAll [] cs) : cs = [] := by cases h; rfl

end Go.AM

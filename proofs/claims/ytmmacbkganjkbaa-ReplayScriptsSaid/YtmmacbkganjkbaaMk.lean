/- Marks, plainly. -/
import Derived.Test.YtmmacbkganjkbaaSh
import Derived.Test.YtmmacbkganjkbaaAe
import Derived.Test.YtmmacbkganjkbaaAd
set_option linter.unusedVariables false
set_option linter.unusedSimpArgs false
namespace Go.AM

theorem rounds_eq : rounds = 1000000 := rfl
structure Mark where
  r : Int
  c : Int
  deriving DecidableEq
def eInt (x : Int) : List IV := [.int .i64 x]
abbrev eInts (l : List Int) : IV := .lst (l.map eInt)
theorem at_Int {l : List Int} {i : Nat} {x : Int} (h : l[i]? = some x) : i < l.length ∧ iidx (eInts l) (.int .i64 (i : Int)) 1 = some i ∧ ildN (eInts l) i 0 1 = some [.int .i64 x] ∧ ild (eInts l) i 0 = some (.int .i64 x) ∧ ibidx l.length (.int .i64 (i : Int)) = some i :=
  ⟨(List.getElem?_eq_some_iff.1 h).1, iidx_map h rfl (by decide), ildN_map h rfl, ild_map h, ibidx_lt (List.getElem?_eq_some_iff.1 h).1⟩
/-- The index of the first, or one below 0. -/
def ixI {α : Type} (p : α → Bool) (l : List α) : Int := match l.findIdx? p with | some i => (i : Int) | none => -1
theorem ixI_none {α : Type} {p : α → Bool} {l : List α} (h : l.findIdx? p = none) : ixI p l = -1 := by simp [ixI, h]
theorem ixI_some {α : Type} {p : α → Bool} {l : List α} {i : Nat} (h : l.findIdx? p = some i) : ixI p l = (i : Int) := by simp [ixI, h]
theorem findIdx_get {α : Type} {p : α → Bool} {l : List α} {i : Nat} (h : l.findIdx? p = some i) : ∃ x, l[i]? = some x ∧ p x = true := by
  obtain ⟨hi, hp, _⟩ := List.findIdx?_eq_some_iff_getElem.1 h
  exact ⟨l[i], List.getElem?_eq_getElem hi, hp⟩

/-! ### What they are -/
def getM : List Mark → Int → Int
  | [], _ => 0
  | x :: l, r => if x.r = r then x.c else getM l r
def isR (r : Int) (x : Mark) : Bool := decide (x.r = r)
def hasM (v : List Mark) (r : Int) : Bool := v.any (isR r)
def setM : List Mark → Int → Int → List Mark
  | [], _, _ => []
  | x :: l, c, r => if x.r = r then ⟨x.r, max x.c c⟩ :: l else x :: setM l c r
def insM : List Mark → Int → Int → List Mark
  | [], c, r => [⟨r, c⟩]
  | x :: l, c, r => if r < x.r then ⟨r, c⟩ :: x :: l else x :: insM l c r
def raiseM (v : List Mark) (c r : Int) : List Mark := if hasM v r = true then setM v c r else if c ≤ 0 then v else insM v c r
def joinM (a b : List Mark) : List Mark := b.foldl (fun v x => raiseM v x.c x.r) a
/-! ### The program's -/
end Go.AM
/- Marks, plainly: the other functions, the program's and the references'. -/
set_option linter.unusedVariables false
set_option linter.unusedSimpArgs false
namespace Go.AM

/-! ### Lengths -/
/-! ### Moves -/
structure Mv where
  c : Int
  r : Int
  par : Int
  ch : Int
  nm : ByteArray
  rk : Nat
  deriving DecidableEq
def eMv (m : Mv) : List IV := [.int .i64 m.c, .int .i64 m.r, .int .i64 m.par, .int .i64 m.ch, .str m.nm, .flt .f64 m.rk]
abbrev eMvs (l : List Mv) : IV := .lst (l.map eMv)
theorem ildN_pre {α : Type} {enc : α → List IV} {l : List α} {i n : Nat} {x : α} (h : l[i]? = some x) (hs : n ≤ (enc x).length) : ildN (.lst (l.map enc)) i 0 n = some ((enc x).take n) := by
  simp only [ildN, List.getElem?_map, h, Option.map_some, Option.bind_some, Nat.zero_add, List.drop_zero]
  rw [if_pos (by omega)]
theorem at_Mv {l : List Mv} {i : Nat} {x : Mv} (h : l[i]? = some x) : i < l.length ∧ iidx (eMvs l) (.int .i64 (i : Int)) 6 = some i ∧ ildN (eMvs l) i 0 6 = some [.int .i64 x.c, .int .i64 x.r, .int .i64 x.par, .int .i64 x.ch, .str x.nm, .flt .f64 x.rk] ∧ ildN (eMvs l) i 0 2 = some [.int .i64 x.c, .int .i64 x.r] ∧
    ild (eMvs l) i 0 = some (.int .i64 x.c) ∧ ild (eMvs l) i 1 = some (.int .i64 x.r) ∧ ild (eMvs l) i 2 = some (.int .i64 x.par) ∧ ild (eMvs l) i 3 = some (.int .i64 x.ch) ∧ ild (eMvs l) i 4 = some (.str x.nm) ∧ ild (eMvs l) i 5 = some (.flt .f64 x.rk) ∧ ibidx l.length (.int .i64 (i : Int)) = some i :=
  ⟨(List.getElem?_eq_some_iff.1 h).1, iidx_map h rfl (by decide), ildN_map h rfl, ildN_pre h (by simp [eMv]), ild_map h, ild_map h, ild_map h, ild_map h, ild_map h, ild_map h, ibidx_lt (List.getElem?_eq_some_iff.1 h).1⟩
/-! ### The program's -/
/-! ### The references' -/
theorem bnd_nat {n i : Nat} {k : IntKind} (h : i ≤ n) : bnd (.int k (i : Int)) n = some i := by
  simp only [bnd]
  rw [if_pos (by omega)]; simp
theorem ibnds_lo {n i : Nat} {k : IntKind} (h : i ≤ n) : ibnds n (some (.int k (i : Int))) none = some (i, n) := by simp [ibnds, bnd_nat h]
theorem ibnds_hi {n i : Nat} {k : IntKind} (h : i ≤ n) : ibnds n none (some (.int k (i : Int))) = some (0, i) := by simp [ibnds, bnd_nat h]
def fewV (l : List Mv) (n : Nat) : Bool := decide (l.length ≤ n) && !l.any fun m => decide (100 < m.nm.size)
theorem ref13_Few_eq {l : List Mv} {n : Nat} (hn : n < 2 ^ 16) : ref13_Few_s (eMvs l) (.int .i64 (n : Int)) = some [.bool (fewV l n)] := by
  unfold ref13_Few_s fewV
  simp only [ilenL_lst, Option.bind_some, ibin_gtr, List.length_map, icond_dec, Int.ofNat_lt]
  by_cases h : n < l.length
  · simp [h, Nat.not_le.2 h]
  · rw [if_neg h]
    rw [iter_check (vs0 := [.int .i64 0]) (fun i => [IV.int .i64 (i : Int)]) (fun _ m => decide (100 < m.nm.size)) 1 [.bool false] 0 [] l rfl (by have := rounds_eq; omega), anyI_any]
    · have hle : l.length ≤ n := by omega
      simp only [hle, decide_true, Bool.true_and]
      cases l.any fun m => decide (100 < m.nm.size) <;> simp
    · intro i x hx
      have hi : i < l.length := (List.getElem?_eq_some_iff.1 hx).1
      unfold ref13_Few_l4
      simp only [ilenL_lst, ilenS_str, nth_zero, ibin_lss, ibin_gtr, List.length_map, Int.ofNat_lt, at_Mv hx, decide_true, icond_true, Option.bind_some, icond_dec, ibin_succ (show i < 2 ^ 62 by omega), decide_eq_true_eq]
      have : ((100 : Int) < (x.nm.size : Int)) ↔ 100 < x.nm.size := by omega
      simp only [this]
      split <;> rfl
    · unfold ref13_Few_l4
      simp
end Go.AM

/- Marks: typed values; the laws that hold the program against the references. -/
set_option linter.unusedVariables false
set_option linter.unusedSimpArgs false
namespace Go.AM

theorem ShOK.list_inv {α : Type} {enc : α → List IV} {L : List Sh} (hinv : ∀ e, Typed L e → ∃ x, e = enc x) {c : IV} (h : ShOK (.slc L) c) : ∃ l : List α, c = .lst (l.map enc) := by
  cases h with
  | slc _ es hl h1 h2 =>
    have : ∀ e ∈ es, ∃ x, e = enc x := fun e he => by
      obtain ⟨i, hi⟩ := List.getElem?_of_mem he
      exact hinv e ⟨h1 e he, fun j s c hs hc => h2 i j e c s hi hc hs⟩
    have key : ∀ (es : List (List IV)), (∀ e ∈ es, ∃ x, e = enc x) → ∃ l : List α, es = l.map enc := by
      intro es
      induction es with
      | nil => intro _; exact ⟨[], rfl⟩
      | cons e es ih =>
        intro h
        obtain ⟨x, rfl⟩ := h e List.mem_cons_self
        obtain ⟨l, rfl⟩ := ih fun e he => h e (List.mem_cons_of_mem _ he)
        exact ⟨x :: l, rfl⟩
    obtain ⟨l, rfl⟩ := key es this
    exact ⟨l, rfl⟩
theorem Typed.one_inv {s : Sh} {cs : List IV} (h : Typed [s] cs) : ∃ c, cs = [c] ∧ ShOK s c := by
  match cs, h.1 with
  | [c], _ => exact ⟨c, rfl, h.2 0 s c rfl rfl⟩
theorem Typed.cons_inv {s : Sh} {l : List Sh} {cs : List IV} (h : Typed (s :: l) cs) : ∃ c cs', cs = c :: cs' ∧ ShOK s c ∧ Typed l cs' := by
  match cs, h.1 with
  | c :: cs', hl => exact ⟨c, cs', rfl, h.2 0 s c rfl rfl, by simpa using hl, fun j s' c' h1 h2 => h.2 (j + 1) s' c' (by simpa using h1) (by simpa using h2)⟩
theorem Typed.nil_inv {cs : List IV} (h : Typed [] cs) : cs = [] := List.length_eq_zero_iff.1 h.1
abbrev shMv : List Sh := [.int .i64, .int .i64, .int .i64, .int .i64, .str, .flt .f64]
theorem TypedAll.cons_inv {l : List Sh} {L : List (List Sh)} {cs : List (List IV)} (h : TypedAll (l :: L) cs) : ∃ c cs', cs = c :: cs' ∧ Typed l c ∧ TypedAll L cs' := by
  cases h with
  | cons h t => exact ⟨_, _, rfl, h, t⟩
theorem TypedAll.nil_inv {cs : List (List IV)} (h : TypedAll [] cs) : cs = [] := by cases h; rfl

end Go.AM

/- Marks: what may be; joined; below; the laws of them. -/
set_option linter.unusedVariables false
set_option linter.unusedSimpArgs false
namespace Go.AM

/-- Marks that may be. -/
structure MayP (v : List Mark) : Prop where
  sorted : v.Pairwise fun a b => a.r < b.r
  ok : ∀ x ∈ v, 1 ≤ x.r ∧ x.r ≤ 255 ∧ 1 ≤ x.c ∧ x.c ≤ 4611686018427387903
theorem pairwise_of_adj {α : Type} {R : α → α → Prop} (htr : ∀ a b c, R a b → R b c → R a c) {v : List α} (h : ∀ (i : Nat) (hi : i + 1 < v.length), R v[i] v[i + 1]) : v.Pairwise R := by
  rw [List.pairwise_iff_getElem]
  intro i j hi hj hij
  obtain ⟨k, rfl⟩ : ∃ k, j = i + 1 + k := ⟨j - (i + 1), by omega⟩
  induction k with
  | zero => exact h i hj
  | succ k ih => exact htr _ _ _ (ih (by omega) (by omega)) (h (i + 1 + k) hj)
theorem MayP.tail {x : Mark} {v : List Mark} (h : MayP (x :: v)) : MayP v := ⟨(List.pairwise_cons.1 h.sorted).2, fun y hy => h.ok y (List.mem_cons_of_mem _ hy)⟩
theorem MayP.nil : MayP [] := ⟨.nil, fun x hx => by simp at hx⟩
theorem MayP.mem {v : List Mark} (h : MayP v) {x : Mark} (hx : x ∈ v) : getM v x.r = x.c := by
  induction v with
  | nil => simp at hx
  | cons y v ih =>
    rw [getM]
    rcases List.mem_cons.1 hx with rfl | hx
    · rw [if_pos rfl]
    · have := (List.pairwise_cons.1 h.sorted).1 x hx
      rw [if_neg (by omega)]
      exact ih h.tail hx
theorem hasM_false {v : List Mark} {r : Int} (h : ¬ (hasM v r = true)) : ∀ x ∈ v, x.r ≠ r := fun x hx e => h (List.any_eq_true.2 ⟨x, hx, by simp [isR, e]⟩)
theorem setM_mem {c r : Int} : ∀ {v : List Mark} {y : Mark}, y ∈ setM v c r → ∃ x ∈ v, x.r = y.r ∧ (y = x ∨ (x.r = r ∧ y.c = max x.c c))
  | [], y, h => by simp [setM] at h
  | x :: v, y, h => by
    simp only [setM] at h
    split at h
    · rename_i hx
      rcases List.mem_cons.1 h with rfl | h
      · exact ⟨x, List.mem_cons_self, rfl, .inr ⟨hx, rfl⟩⟩
      · exact ⟨y, List.mem_cons_of_mem _ h, rfl, .inl rfl⟩
    · rcases List.mem_cons.1 h with rfl | h
      · exact ⟨y, List.mem_cons_self, rfl, .inl rfl⟩
      · obtain ⟨z, hz, h1, h2⟩ := setM_mem h
        exact ⟨z, List.mem_cons_of_mem _ hz, h1, h2⟩
theorem insM_mem {c r : Int} : ∀ {v : List Mark} {y : Mark}, y ∈ insM v c r → y ∈ v ∨ y = ⟨r, c⟩
  | [], y, h => by simp [insM] at h; exact .inr h
  | x :: v, y, h => by
    simp only [insM] at h
    split at h
    · rcases List.mem_cons.1 h with rfl | h
      · exact .inr rfl
      · exact .inl h
    · rcases List.mem_cons.1 h with rfl | h
      · exact .inl List.mem_cons_self
      · rcases insM_mem h with h | h
        · exact .inl (List.mem_cons_of_mem _ h)
        · exact .inr h
theorem setM_sorted {c r : Int} : ∀ {v : List Mark}, v.Pairwise (fun a b => a.r < b.r) → (setM v c r).Pairwise fun a b => a.r < b.r
  | [], _ => .nil
  | x :: v, h => by
    obtain ⟨h1, h2⟩ := List.pairwise_cons.1 h
    simp only [setM]
    split
    · exact List.pairwise_cons.2 ⟨h1, h2⟩
    · refine List.pairwise_cons.2 ⟨fun y hy => ?_, setM_sorted h2⟩
      obtain ⟨z, hz, e, _⟩ := setM_mem hy
      rw [← e]; exact h1 z hz
theorem insM_sorted {c r : Int} : ∀ {v : List Mark}, (∀ x ∈ v, x.r ≠ r) → v.Pairwise (fun a b => a.r < b.r) → (insM v c r).Pairwise fun a b => a.r < b.r
  | [], _, _ => List.pairwise_singleton _ _
  | x :: v, hn, h => by
    obtain ⟨h1, h2⟩ := List.pairwise_cons.1 h
    have hx := hn x List.mem_cons_self
    simp only [insM]
    split
    · rename_i hr
      refine List.pairwise_cons.2 ⟨fun y hy => ?_, h⟩
      rcases List.mem_cons.1 hy with rfl | hy
      · exact hr
      · have := h1 y hy; show r < y.r; omega
    · refine List.pairwise_cons.2 ⟨fun y hy => ?_, insM_sorted (fun y hy => hn y (List.mem_cons_of_mem _ hy)) h2⟩
      rcases insM_mem hy with hy | rfl
      · exact h1 y hy
      · show x.r < r; omega
theorem MayP.raise {v : List Mark} (h : MayP v) {c r : Int} (hr : 1 ≤ r ∧ r ≤ 255) (hc : c ≤ 4611686018427387903) : MayP (raiseM v c r) := by
  unfold raiseM
  split
  · refine ⟨setM_sorted h.sorted, fun y hy => ?_⟩
    obtain ⟨x, hx, e, h1 | ⟨_, h1⟩⟩ := setM_mem hy
    · subst h1; exact h.ok y hx
    · have := h.ok x hx; rw [← e, h1]; omega
  · rename_i hh
    split
    · exact h
    · refine ⟨insM_sorted (hasM_false hh) h.sorted, fun y hy => ?_⟩
      rcases insM_mem hy with hy | rfl
      · exact h.ok y hy
      · show 1 ≤ r ∧ r ≤ 255 ∧ 1 ≤ c ∧ c ≤ 4611686018427387903; omega
theorem MayP.join : ∀ {b a : List Mark}, MayP a → (∀ x ∈ b, 1 ≤ x.r ∧ x.r ≤ 255 ∧ 1 ≤ x.c ∧ x.c ≤ 4611686018427387903) → MayP (joinM a b)
  | [], a, ha, _ => ha
  | x :: b, a, ha, hb => by
    have hx := hb x List.mem_cons_self
    exact MayP.join (b := b) (ha.raise ⟨hx.1, hx.2.1⟩ hx.2.2.2) fun y hy => hb y (List.mem_cons_of_mem _ hy)
theorem Bool.eq_of_iff {a b : Bool} (h : a = true ↔ b = true) : a = b := by cases a <;> cases b <;> simp_all

def timeB (c r : Int) : Bool := decide (1 ≤ c) && decide (c ≤ 4611686018427387903) && decide (1 ≤ r) && decide (r ≤ 255)
theorem ref13_Time_eq (c r : Int) : ref13_Time_s (.int .i64 c) (.int .i64 r) = some [.bool (timeB c r)] := by
  unfold ref13_Time_s timeB
  simp only [ibin_geq, ibin_leq, Option.bind_some, icond_dec]
  by_cases h1 : 1 ≤ c
  · by_cases h2 : c ≤ 4611686018427387903
    · by_cases h3 : 1 ≤ r
      · simp [h1, h2, h3]
      · simp [h1, h2, h3]
    · simp [h1, h2]
  · simp [h1]
end Go.AM

/- Texts that are UTF-8: the program's and the references' answers are one. -/
set_option linter.unusedVariables false
set_option linter.unusedSimpArgs false
namespace Go.AM

/-! ### Conditions that are values -/
theorem icond_mb (b c d : Bool) : icond (.bool b) (fun _ => some [IV.bool c]) (fun _ => some [IV.bool d]) = some [IV.bool (cond b c d)] := by cases b <;> rfl
theorem icond_mi (b : Bool) (k : IntKind) (c d : Int) : icond (.bool b) (fun _ => some [IV.int k c]) (fun _ => some [IV.int k d]) = some [IV.int k (cond b c d)] := by cases b <;> rfl

/-- The byte at a place. -/
def byteAt (s : ByteArray) (i : Nat) : Option Nat := (s.data.toList[i]?).map (·.toNat)
def inB (s : ByteArray) (i lo hi : Nat) : Bool := match byteAt s i with | some b => decide (lo ≤ b) && decide (b ≤ hi) | none => false
theorem ba_get (s : ByteArray) (i : Nat) : s[i]? = s.data.toList[i]? := by
  rw [Array.getElem?_toList]
  unfold getElem?
  rfl
theorem ba_size (s : ByteArray) : s.data.toList.length = s.size := by rw [Array.length_toList]; rfl
theorem byteAt_lt {s : ByteArray} {i b : Nat} (h : byteAt s i = some b) : i < s.size ∧ b < 256 := by
  unfold byteAt at h
  obtain ⟨x, hx, rfl⟩ := Option.map_eq_some_iff.1 h
  exact ⟨by rw [← ba_size]; exact (List.getElem?_eq_some_iff.1 hx).1, x.toNat_lt⟩
theorem byteAt_some {s : ByteArray} {i : Nat} (h : i < s.size) : ∃ b, byteAt s i = some b := by
  unfold byteAt
  rw [List.getElem?_eq_getElem (by rw [ba_size]; exact h)]
  exact ⟨_, rfl⟩
theorem byteAt_none {s : ByteArray} {i : Nat} (h : s.size ≤ i) : byteAt s i = none := by
  unfold byteAt
  rw [List.getElem?_eq_none (by rw [ba_size]; exact h)]
  rfl
theorem istr_eq (s : ByteArray) (i : Nat) : istr (.str s) (.int .i64 (i : Int)) = (byteAt s i).map fun b => .int .u8 (b : Int) := by
  simp only [istr, Int.toNat_natCast, ba_get, byteAt, Option.map_map]
  rw [if_pos (by omega)]
  rfl
theorem icii_u8 {b : Nat} (h : b < 256) : icii .i64 (.int .u8 (b : Int)) = some (.int .i64 (b : Int)) := by
  simp only [icii]
  rw [wrap64 (by omega) (by omega)]
theorem ref04_in_eq (s : ByteArray) (i lo hi : Nat) : ref04_in_s (.str s) (.int .i64 (i : Int)) (.int .i64 (lo : Int)) (.int .i64 (hi : Int)) = some [.bool (inB s i lo hi)] := by
  unfold ref04_in_s inB
  simp only [ilenS_str, Option.bind_some, ibin_lss, Int.ofNat_lt, icond_dec]
  by_cases h : i < s.size
  · obtain ⟨b, hb⟩ := byteAt_some h
    have := (byteAt_lt hb).2
    simp only [h, if_true, istr_eq, hb, Option.map_some, Option.bind_some, icii_u8 this, ibin_geq, ibin_leq, icond_dec, Int.ofNat_le]
    by_cases h1 : lo ≤ b <;> simp [h1]
  · simp [h, byteAt_none (Nat.le_of_not_lt h)]
/-- How many bytes the sign has that begins at a place; none: 0. -/
def sgn (s : ByteArray) (i : Nat) : Nat :=
  if inB s i 0 127 = true then 1
  else if (inB s i 194 223 && inB s (i + 1) 128 191) = true then 2
  else if (inB s (i + 2) 128 191 && (inB s i 224 224 && inB s (i + 1) 160 191 || inB s i 225 236 && inB s (i + 1) 128 191 || inB s i 238 239 && inB s (i + 1) 128 191 || inB s i 237 237 && inB s (i + 1) 128 159)) = true then 3
  else if (inB s (i + 2) 128 191 && inB s (i + 3) 128 191 && (inB s i 240 240 && inB s (i + 1) 144 191 || inB s i 241 243 && inB s (i + 1) 128 191 || inB s i 244 244 && inB s (i + 1) 128 143)) = true then 4
  else 0
theorem ibin_addN {i k : Nat} (h : i + k < 2 ^ 62) : ibin .add (.int .i64 (i : Int)) (.int .i64 (k : Int)) = some (.int .i64 ((i + k : Nat) : Int)) := by
  rw [ibin_add (by omega) (by omega)]; rfl
theorem sign_e3 : ∀ (b2 b4 b5 b6 b7 b8 b9 : Bool), (bif b4 then bif b5 then true else bif b6 then bif b2 then true else bif b7 then bif b2 then true else bif b8 then b9 else false else bif b8 then b9 else false else bif b7 then bif b2 then true else bif b8 then b9 else false else bif b8 then b9 else false
          else bif b6 then bif b2 then true else bif b7 then bif b2 then true else bif b8 then b9 else false else bif b8 then b9 else false else bif b7 then bif b2 then true else bif b8 then b9 else false else bif b8 then b9 else false) = (b4 && b5 || b6 && b2 || b7 && b2 || b8 && b9) := by decide
theorem sign_e4 : ∀ (b2 b11 b12 b13 b14 b15 : Bool), (bif b11 then bif b12 then true else bif b13 then bif b2 then true else bif b14 then b15 else false else bif b14 then b15 else false else bif b13 then bif b2 then true else bif b14 then b15 else false else bif b14 then b15 else false) = (b11 && b12 || b13 && b2 || b14 && b15) := by decide
theorem ref04_sign_eq {s : ByteArray} {i : Nat} (h : i < 2 ^ 61) : ref04_sign_s (.str s) (.int .i64 (i : Int)) = some [.int .i64 (sgn s i : Int)] := by
  unfold ref04_sign_s
  have a1 : ibin .add (.int .i64 (i : Int)) (.int .i64 1) = some (.int .i64 ((i + 1 : Nat) : Int)) := ibin_addN (k := 1) (by omega)
  have a2 : ibin .add (.int .i64 (i : Int)) (.int .i64 2) = some (.int .i64 ((i + 2 : Nat) : Int)) := ibin_addN (k := 2) (by omega)
  have a3 : ibin .add (.int .i64 (i : Int)) (.int .i64 3) = some (.int .i64 ((i + 3 : Nat) : Int)) := ibin_addN (k := 3) (by omega)
  have q : ∀ (i lo hi : Nat) (a b : Int), a = (lo : Int) → b = (hi : Int) → ref04_in_s (.str s) (.int .i64 (i : Int)) (.int .i64 a) (.int .i64 b) = some [.bool (inB s i lo hi)] := fun i lo hi a b h1 h2 => by subst h1; subst h2; exact ref04_in_eq s i lo hi
  have q0 := q i 0 127 0 127 rfl rfl
  have q1 := q i 194 223 194 223 rfl rfl
  have q2 := q (i + 1) 128 191 128 191 rfl rfl
  have q3 := q (i + 2) 128 191 128 191 rfl rfl
  have q4 := q i 224 224 224 224 rfl rfl
  have q5 := q (i + 1) 160 191 160 191 rfl rfl
  have q6 := q i 225 236 225 236 rfl rfl
  have q7 := q i 238 239 238 239 rfl rfl
  have q8 := q i 237 237 237 237 rfl rfl
  have q9 := q (i + 1) 128 159 128 159 rfl rfl
  have q10 := q (i + 3) 128 191 128 191 rfl rfl
  have q11 := q i 240 240 240 240 rfl rfl
  have q12 := q (i + 1) 144 191 144 191 rfl rfl
  have q13 := q i 241 243 241 243 rfl rfl
  have q14 := q i 244 244 244 244 rfl rfl
  have q15 := q (i + 1) 128 143 128 143 rfl rfl
  simp only [a1, a2, a3, q0, q1, q2, q3, q4, q5, q6, q7, q8, q9, q10, q11, q12, q13, q14, q15, Option.bind_some, nth_zero, icond_mb, scal_int, scal_nil, Option.map_some, icond_mi]
  unfold sgn
  congr 2
  congr 1
  generalize inB s i 0 127 = b0
  generalize inB s i 194 223 = b1
  generalize inB s (i + 1) 128 191 = b2
  generalize inB s (i + 2) 128 191 = b3
  generalize inB s i 224 224 = b4
  generalize inB s (i + 1) 160 191 = b5
  generalize inB s i 225 236 = b6
  generalize inB s i 238 239 = b7
  generalize inB s i 237 237 = b8
  generalize inB s (i + 1) 128 159 = b9
  generalize inB s (i + 3) 128 191 = b10
  generalize inB s i 240 240 = b11
  generalize inB s (i + 1) 144 191 = b12
  generalize inB s i 241 243 = b13
  generalize inB s i 244 244 = b14
  generalize inB s (i + 1) 128 143 = b15
  rw [sign_e3 b2 b4 b5 b6 b7 b8 b9, sign_e4 b2 b11 b12 b13 b14 b15]
  generalize (b4 && b5 || b6 && b2 || b7 && b2 || b8 && b9) = x
  generalize (b11 && b12 || b13 && b2 || b14 && b15) = y
  cases b0 <;> cases b1 <;> cases b2 <;> cases b3 <;> cases x <;> cases b10 <;> cases y <;> rfl
theorem sgn_le {s : ByteArray} {i : Nat} : i + sgn s i ≤ s.size ∨ sgn s i = 0 := by
  have hin : ∀ {j lo hi : Nat}, inB s j lo hi = true → j < s.size := fun {j lo hi} h => by
    unfold inB at h
    cases hb : byteAt s j with
    | none => rw [hb] at h; cases h
    | some b => exact (byteAt_lt hb).1
  unfold sgn
  split
  · rename_i h; have := hin h; left; omega
  · split
    · rename_i h; simp only [Bool.and_eq_true] at h; have := hin h.2; left; omega
    · split
      · rename_i h; simp only [Bool.and_eq_true] at h; have := hin h.1; left; omega
      · split
        · rename_i h; simp only [Bool.and_eq_true] at h; have := hin h.1.2; left; omega
        · right; rfl
/-- Where the last sign ends. -/
def scan (s : ByteArray) (i : Nat) : Nat := if h : i < s.size ∧ sgn s i ≠ 0 then scan s (i + sgn s i) else i
 termination_by s.size - i
 decreasing_by omega
def validB (s : ByteArray) : Bool := decide (scan s 0 = s.size)
theorem first_loop {s : ByteArray} (hs : s.size < 2 ^ 40) : ∀ (n i : Nat), i ≤ s.size → s.size - i < n → iter n (ref04_First_l2 (.str s)) [.int .i64 (i : Int)] = some (if scan s i = s.size then (0, []) else (1, [.int .i64 (scan s i : Int), .bool true]))
  | 0, i, _, h => by omega
  | n + 1, i, hi, hn => by
    have hf : ref04_First_l2 (.str s) [.int .i64 (i : Int)] = some (if i < s.size then (if sgn s i = 0 then .done 1 [.int .i64 (i : Int), .bool true] else .next [.int .i64 ((i + sgn s i : Nat) : Int)]) else .done 0 []) := by
      unfold ref04_First_l2
      have hl : sgn s i ≤ 4 := by unfold sgn; repeat (first | split | omega)
      simp only [ilenS_str, Option.bind_some, nth_zero, ibin_lss, Int.ofNat_lt, icond_dec, ref04_sign_eq (show i < 2 ^ 61 by omega), ibin_eql, ibin_addN (show i + sgn s i < 2 ^ 62 by omega)]
      have : ((sgn s i : Int) = 0) ↔ sgn s i = 0 := by omega
      simp only [this]
      by_cases h1 : i < s.size
      · by_cases h2 : sgn s i = 0 <;> simp [h1, h2]
      · simp [h1]
    simp only [iter, hf, Option.bind_some]
    rw [scan]
    by_cases h1 : i < s.size
    · by_cases h2 : sgn s i = 0
      · have : ¬ (i < s.size ∧ sgn s i ≠ 0) := fun h => h.2 h2
        simp only [h1, h2, if_true, ne_eq, not_true_eq_false, and_false, dite_false]
        rw [if_neg (by omega)]
      · have := sgn_le (s := s) (i := i)
        simp only [h1, h2, if_true, if_false, ne_eq, not_false_eq_true, and_true, dite_true]
        exact first_loop hs n (i + sgn s i) (by omega) (by omega)
    · simp only [h1, if_false, false_and, dite_false]
      rw [if_pos (by omega)]
theorem ref04_Valid_eq {s : ByteArray} (hs : s.size < 2 ^ 19) : ref04_Valid_s (.str s) = some [.bool (validB s)] := by
  unfold ref04_Valid_s ref04_First_s validB
  have := first_loop (s := s) (by omega) rounds 0 (Nat.zero_le _) (by have : rounds = 1000000 := rfl; omega)
  rw [show (IV.int .i64 0) = .int .i64 ((0 : Nat) : Int) from rfl, this]
  by_cases h : scan s 0 = s.size <;> simp [h]

/-! ### The program's -/
/-- What a first byte asks for. -/
def headN (b : Nat) : Nat × Nat × Nat × Bool :=
  if b < 128 then (0, 128, 191, true) else if b < 194 then (0, 128, 191, false) else if b < 224 then (1, 128, 191, true)
  else if b < 240 then (if b = 224 then (2, 160, 191, true) else if b = 237 then (2, 128, 159, true) else (2, 128, 191, true))
  else if b < 245 then (if b = 240 then (3, 144, 191, true) else if b = 244 then (3, 128, 143, true) else (3, 128, 191, true))
  else (0, 128, 191, false)
theorem word_head_eq (b : Nat) : word_head_s (.int .u8 (b : Int)) = some [.int .i64 ((headN b).1 : Int), .int .u8 ((headN b).2.1 : Int), .int .u8 ((headN b).2.2.1 : Int), .bool (headN b).2.2.2] := by
  unfold word_head_s headN
  simp only [ibin_lss, ibin_eql, Option.bind_some, icond_dec]
  have c1 : ((b : Int) < 128) = (b < 128) := propext (by omega)
  have c2 : ((b : Int) < 194) = (b < 194) := propext (by omega)
  have c3 : ((b : Int) < 224) = (b < 224) := propext (by omega)
  have c4 : ((b : Int) < 240) = (b < 240) := propext (by omega)
  have c5 : ((b : Int) < 245) = (b < 245) := propext (by omega)
  have c6 : ((b : Int) = 224) = (b = 224) := propext (by omega)
  have c7 : ((b : Int) = 237) = (b = 237) := propext (by omega)
  have c8 : ((b : Int) = 240) = (b = 240) := propext (by omega)
  have c9 : ((b : Int) = 244) = (b = 244) := propext (by omega)
  simp only [c1, c2, c3, c4, c5, c6, c7, c8, c9]
  repeat (first | rfl | split)
/-- Are the bytes behind the first as they must be? -/
def restB : List Nat → Nat → Nat → Bool
  | [], _, _ => true
  | b :: l, lo, hi => decide (lo ≤ b) && decide (b ≤ hi) && restB l 128 191
def eByte (b : Nat) : List IV := [.int .u8 (b : Int)]
theorem signs_rest {l : List Nat} (hl : l.length < 100) (lo hi : Nat) : iter rounds (word_signs_l6 (.int .i64 (l.length : Int)) (.lst (l.map eByte))) [.int .u8 (lo : Int), .int .u8 (hi : Int), .int .i64 0] = some (if restB l lo hi = true then (0, []) else (1, [])) := by
  rw [iter_for (vs0 := [.int .u8 (lo : Int), .int .u8 (hi : Int), .int .i64 0]) (fun i (s : Nat × Nat) => [IV.int .u8 (s.1 : Int), .int .u8 (s.2 : Int), .int .i64 (i : Int)]) (fun i s b => if b < s.1 ∨ s.2 < b then .inr (1, []) else .inl (128, 191)) (fun _ => (0, [])) (fun _ _ => True) l (lo, hi) rfl (by have : rounds = 1000000 := rfl; omega) trivial]
  · congr 1
    have key : ∀ (l : List Nat) (k lo hi : Nat), runL (fun i (s : Nat × Nat) b => if b < s.1 ∨ s.2 < b then .inr (1, []) else .inl (128, 191)) (fun _ => ((0, []) : Nat × List IV)) l k (lo, hi) = if restB l lo hi = true then (0, []) else (1, []) := by
      intro l
      induction l with
      | nil => intro k lo hi; rfl
      | cons b l ih =>
        intro k lo hi
        simp only [runL, restB]
        by_cases h : b < lo ∨ hi < b
        · rw [if_pos h]
          have : ¬ (decide (lo ≤ b) && decide (b ≤ hi) && restB l 128 191) = true := by
            simp only [Bool.and_eq_true, decide_eq_true_eq]; omega
          simp only [this, if_false, Bool.false_eq_true]
        · rw [if_neg h]
          have h1 : lo ≤ b := by omega
          have h2 : b ≤ hi := by omega
          simp only [h1, h2, decide_true, Bool.true_and]
          exact ih (k + 1) 128 191
    exact key l 0 lo hi
  · intro i s b hb _
    have hi : i < l.length := (List.getElem?_eq_some_iff.1 hb).1
    refine ⟨fun _ _ => trivial, ?_⟩
    unfold word_signs_l6
    simp only [nth_zero, nth_one, nth_two, ibin_lss, ibin_gtr, Option.bind_some, Int.ofNat_lt, hi, decide_true, icond_true, iidx_map (enc := eByte) (sz := 1) hb rfl (Nat.zero_lt_one), ild_map (enc := eByte) hb, eByte, List.getElem?_cons_zero, icond_dec, ibin_succ (show i < 2 ^ 62 by omega)]
    by_cases h1 : b < s.1
    · simp [h1]
    · by_cases h2 : s.2 < b
      · simp [h1, h2]
      · simp [h1, h2]
  · intro s _
    unfold word_signs_l6
    simp
theorem byteAt_map (s : ByteArray) : ∀ i, (s.data.toList.map (·.toNat))[i]? = byteAt s i := fun i => by rw [List.getElem?_map]; rfl
/-- The step of the program's loop: on by a sign, if there is one. -/
theorem sgn_head {s : ByteArray} {i b : Nat} (hb : byteAt s i = some b) : sgn s i = if (headN b).2.2.2 = true ∧ (headN b).1 < s.size - i ∧ restB (((s.data.toList.map (·.toNat)).drop (i + 1)).take (headN b).1) (headN b).2.1 (headN b).2.2.1 = true then 1 + (headN b).1 else 0 := by
  have hi := (byteAt_lt hb).1
  have key : ∀ (n k : Nat), k ≤ s.size → s.size - k ≥ n + 1 → ∃ c, byteAt s k = some c ∧ ((s.data.toList.map (·.toNat)).drop k).take (n + 1) = c :: ((s.data.toList.map (·.toNat)).drop (k + 1)).take n := fun n k hk hn => by
    obtain ⟨c, hc⟩ := byteAt_some (s := s) (i := k) (by omega)
    refine ⟨c, hc, ?_⟩
    have hk' : k < (s.data.toList.map (·.toNat)).length := by rw [List.length_map, ba_size]; omega
    rw [List.drop_eq_getElem_cons hk', List.take_succ_cons]
    congr 1
    have := byteAt_map s k
    rw [List.getElem?_eq_getElem hk', hc] at this
    exact Option.some.inj this
  have none_ : ∀ {k lo hi : Nat}, s.size ≤ k → inB s k lo hi = false := fun {k lo hi} h => by unfold inB; rw [byteAt_none h]
  have some_ : ∀ {k c lo hi : Nat}, byteAt s k = some c → inB s k lo hi = (decide (lo ≤ c) && decide (c ≤ hi)) := fun {k c lo hi} h => by unfold inB; rw [h]
  unfold sgn headN
  simp only [some_ hb]
  by_cases h1 : b < 128
  · have e : 0 < s.size - i := by omega
    simp [h1, restB, e, show b ≤ 127 by omega]
  have n1 : ¬ b ≤ 127 := by omega
  by_cases h2 : b < 194
  · have q1 : ¬ 194 ≤ b := by omega
    have q2 : ¬ 224 ≤ b := by omega
    have q3 : ¬ 225 ≤ b := by omega
    have q4 : ¬ 238 ≤ b := by omega
    have q5 : ¬ 237 ≤ b := by omega
    have q6 : ¬ 240 ≤ b := by omega
    have q7 : ¬ 241 ≤ b := by omega
    have q8 : ¬ 244 ≤ b := by omega
    simp [h1, h2, n1, q1, q2, q3, q4, q5, q6, q7, q8]
  have p1 : 194 ≤ b := by omega
  by_cases h3 : b < 224
  · have q1 : b ≤ 223 := by omega
    have q2 : ¬ 224 ≤ b := by omega
    have q3 : ¬ 225 ≤ b := by omega
    have q4 : ¬ 238 ≤ b := by omega
    have q5 : ¬ 237 ≤ b := by omega
    have q6 : ¬ 240 ≤ b := by omega
    have q7 : ¬ 241 ≤ b := by omega
    have q8 : ¬ 244 ≤ b := by omega
    by_cases hlen : 1 < s.size - i
    · obtain ⟨c1, hc1, t1⟩ := key 0 (i + 1) (by omega) (by omega)
      simp only [List.take_zero, Nat.zero_add] at t1
      simp [h1, h2, h3, n1, p1, q1, q2, q3, q4, q5, q6, q7, q8, hlen, t1, restB, some_ hc1]
    · simp [h1, h2, h3, n1, p1, q1, q2, q3, q4, q5, q6, q7, q8, hlen, none_ (show s.size ≤ i + 1 by omega)]
  have n3 : ¬ b ≤ 223 := by omega
  have p2 : 224 ≤ b := by omega
  by_cases h4 : b < 240
  · have q6 : ¬ 240 ≤ b := by omega
    have q7 : ¬ 241 ≤ b := by omega
    have q8 : ¬ 244 ≤ b := by omega
    by_cases hlen : 2 < s.size - i
    · obtain ⟨c1, hc1, t1⟩ := key 1 (i + 1) (by omega) (by omega)
      obtain ⟨c2, hc2, t2⟩ := key 0 (i + 1 + 1) (by omega) (by omega)
      simp only [List.take_zero, Nat.zero_add] at t2
      simp only [Nat.reduceAdd, t2] at t1
      have hc2' : byteAt s (i + 2) = some c2 := hc2
      by_cases e1 : b = 224
      · subst e1
        simp [hlen, t1, restB, some_ hc1, some_ hc2', Bool.and_comm, Bool.and_left_comm, Bool.and_assoc]
      · by_cases e2 : b = 237
        · subst e2
          simp [hlen, t1, restB, some_ hc1, some_ hc2', Bool.and_comm, Bool.and_left_comm, Bool.and_assoc]
        · have g1 : ¬ b ≤ 224 := by omega
          have g2 : 225 ≤ b := by omega
          have g3 : b ≤ 239 := by omega
          have g4 : (b ≤ 236 ∨ 238 ≤ b) := by omega
          have g5 : ¬ (237 ≤ b ∧ b ≤ 237) := by omega
          simp only [h1, h2, h3, h4, e1, e2, n1, n3, p1, p2, q6, q7, q8, hlen, t1, restB, some_ hc1, some_ hc2', g1, g2, g3, if_true, if_false, decide_true, decide_false, Bool.true_and, Bool.and_true, Bool.false_and, Bool.and_false, Bool.false_eq_true, Bool.false_or, Bool.or_false, true_and]
          rcases g4 with g4 | g4
          · have g6 : ¬ 238 ≤ b := by omega
            have g7 : ¬ (237 ≤ b) := by omega
            simp [g4, g6, g7, Bool.and_comm, Bool.and_left_comm, Bool.and_assoc]
          · have g6 : ¬ b ≤ 236 := by omega
            have g7 : ¬ (b ≤ 237) := by omega
            simp [g4, g6, g7, Bool.and_comm, Bool.and_left_comm, Bool.and_assoc]
    · have z := none_ (lo := 128) (hi := 191) (show s.size ≤ i + 2 by omega)
      simp only [h1, h2, h3, h4, n1, n3, p1, p2, q6, q7, q8, z, if_true, if_false, decide_true, decide_false, Bool.true_and, Bool.and_true, Bool.false_and, Bool.and_false, Bool.false_eq_true, Bool.false_or, Bool.or_false, true_and]
      by_cases e1 : b = 224
      · simp [e1, hlen]
      · by_cases e2 : b = 237
        · simp [e2, hlen]
        · simp [e1, e2, hlen]
  have p3 : 240 ≤ b := by omega
  have r1 : ¬ b ≤ 224 := by omega
  have r2 : ¬ b ≤ 236 := by omega
  have r3 : ¬ b ≤ 239 := by omega
  have r4 : ¬ b ≤ 237 := by omega
  have q240 : ¬ b = 224 := by omega
  by_cases h5 : b < 245
  · by_cases hlen : 3 < s.size - i
    · obtain ⟨c1, hc1, t1⟩ := key 2 (i + 1) (by omega) (by omega)
      obtain ⟨c2, hc2, t2⟩ := key 1 (i + 1 + 1) (by omega) (by omega)
      obtain ⟨c3, hc3, t3⟩ := key 0 (i + 1 + 1 + 1) (by omega) (by omega)
      simp only [List.take_zero, Nat.zero_add] at t3
      simp only [Nat.reduceAdd, t3] at t2
      simp only [Nat.reduceAdd, t2] at t1
      have hc2' : byteAt s (i + 2) = some c2 := hc2
      have hc3' : byteAt s (i + 3) = some c3 := hc3
      by_cases e1 : b = 240
      · subst e1
        simp [hlen, t1, restB, some_ hc1, some_ hc2', some_ hc3', Bool.and_comm, Bool.and_left_comm, Bool.and_assoc]
      · by_cases e2 : b = 244
        · subst e2
          simp [hlen, t1, restB, some_ hc1, some_ hc2', some_ hc3', Bool.and_comm, Bool.and_left_comm, Bool.and_assoc]
        · have g1 : ¬ b ≤ 240 := by omega
          have g2 : 241 ≤ b := by omega
          have g3 : b ≤ 243 := by omega
          have g4 : ¬ 244 ≤ b := by omega
          simp [h1, h2, h3, h4, h5, e1, e2, n1, n3, p1, p2, p3, r1, r2, r3, r4, hlen, t1, restB, some_ hc1, some_ hc2', some_ hc3', g1, g2, g3, g4, Bool.and_comm, Bool.and_left_comm, Bool.and_assoc]
    · have z := none_ (lo := 128) (hi := 191) (show s.size ≤ i + 3 by omega)
      simp only [h1, h2, h3, h4, h5, n1, n3, p1, p2, p3, r1, r2, r3, r4, z, if_true, if_false, decide_true, decide_false, Bool.true_and, Bool.and_true, Bool.false_and, Bool.and_false, Bool.false_eq_true, Bool.false_or, Bool.or_false, true_and]
      by_cases e1 : b = 240
      · simp [e1, hlen]
      · by_cases e2 : b = 244
        · simp [e2, hlen]
        · simp [e1, e2, hlen]
  · have g1 : ¬ b ≤ 240 := by omega
    have g2 : ¬ b ≤ 243 := by omega
    have g3 : ¬ b ≤ 244 := by omega
    simp [h1, h2, h3, h4, h5, n1, n3, p1, p2, p3, r1, r2, r3, r4, g1, g2, g3]
theorem extract_bytes (s : ByteArray) (a b : Nat) : (s.extract a b).data.toList.map (·.toNat) = ((s.data.toList.map (·.toNat)).drop a).take (b - a) := by
  have : (s.extract a b).data = s.data.extract a b := by rw [ByteArray.data_extract]
  rw [this, Array.toList_extract, List.extract_eq_take_drop, List.map_take, List.map_drop]
theorem signs_step {s : ByteArray} (hs : s.size < 2 ^ 40) {n i : Nat} (hn : n < 2 ^ 40) (hi : i < s.size) : word_signs_l2 (.str s) [.int .i64 (n : Int), .int .i64 (i : Int)] = some (if sgn s i ≠ 0 then .next [.int .i64 ((n + 1 : Nat) : Int), .int .i64 ((i + sgn s i : Nat) : Int)] else .done 0 [.int .i64 (n : Int), .int .i64 (i : Int)]) := by
  obtain ⟨b, hb⟩ := byteAt_some hi
  have hb8 := (byteAt_lt hb).2
  have hr : (headN b).1 ≤ 3 := by unfold headN; repeat (first | split | simp)
  rw [sgn_head hb]
  unfold word_signs_l2
  have hsub : ibin .sub (.int .i64 (s.size : Int)) (.int .i64 (i : Int)) = some (.int .i64 ((s.size - i : Nat) : Int)) := by
    rw [ibin_sub (by omega) (by omega)]; congr 2; omega
  simp only [ilenS_str, nth_one, nth_zero, nth_two, nth_three, ibin_lss, Int.ofNat_lt, Option.bind_some, hi, decide_true, icond_true, istr_eq, hb, Option.map_some, word_head_eq, iun_not, hsub, ibin_leq, Int.ofNat_le, icond_bool, Bool.not_eq_true']
  generalize hx : headN b = x at hr ⊢
  obtain ⟨rest, lo, hi', is⟩ := x
  simp only at hr ⊢
  cases is with
  | false => simp
  | true =>
    simp only [Bool.true_eq_false, if_false, Option.bind_some, nth_zero, true_and]
    by_cases hle : s.size - i ≤ rest
    · have : ¬ rest < s.size - i := by omega
      simp [hle, this]
    · have hlt : rest < s.size - i := by omega
      have a1 : ibin .add (.int .i64 (i : Int)) (.int .i64 1) = some (.int .i64 ((i + 1 : Nat) : Int)) := ibin_succ (by omega)
      have a2 : ibin .add (.int .i64 ((i + 1 : Nat) : Int)) (.int .i64 (rest : Int)) = some (.int .i64 ((i + 1 + rest : Nat) : Int)) := ibin_addN (by omega)
      have a3 : ibin .add (.int .i64 1) (.int .i64 (rest : Int)) = some (.int .i64 ((1 + rest : Nat) : Int)) := ibin_addN (i := 1) (by omega)
      have a4 : ibin .add (.int .i64 (i : Int)) (.int .i64 ((1 + rest : Nat) : Int)) = some (.int .i64 ((i + (1 + rest) : Nat) : Int)) := ibin_addN (by omega)
      have a5 : ibin .add (.int .i64 (n : Int)) (.int .i64 1) = some (.int .i64 ((n + 1 : Nat) : Int)) := ibin_succ (by omega)
      have bb : ∀ (n i : Nat), i ≤ n → bnd (.int .i64 (i : Int)) n = some i := fun n i h => by
        simp only [bnd]; rw [if_pos (by omega)]; simp
      have hsl : islcS (.str s) (some (.int .i64 ((i + 1 : Nat) : Int))) (some (.int .i64 ((i + 1 + rest : Nat) : Int))) = some (.str (s.extract (i + 1) (i + 1 + rest))) := by
        simp only [islcS, ibnds, bb s.size (i + 1 + rest) (by omega), bb (i + 1 + rest) (i + 1) (by omega), Option.bind_some]
      generalize hl : ((s.data.toList.map (·.toNat)).drop (i + 1)).take rest = l
      have hll : l.length = rest := by
        rw [← hl]; simp only [List.length_take, List.length_drop, List.length_map, ba_size]; omega
      have hcv : icvb (.str (s.extract (i + 1) (i + 1 + rest))) = some (.lst (l.map eByte)) := by
        simp only [icvb]
        congr 2
        have h1 : (s.extract (i + 1) (i + 1 + rest)).data.toList.map (fun b => [IV.int .u8 (b.toNat : Int)]) = ((s.extract (i + 1) (i + 1 + rest)).data.toList.map (·.toNat)).map eByte := by
          rw [List.map_map]; rfl
        rw [h1, extract_bytes, show i + 1 + rest - (i + 1) = rest by omega, hl]
      simp only [decide_eq_true_eq, hle, if_false, a1, a2, hsl, hcv, Option.bind_some, ilenL_lst, List.length_map, signs_rest (show l.length < 100 by omega), decide_false, Bool.false_eq_true, hlt, true_and]
      by_cases hrb : restB l lo hi' = true
      · simp only [hrb, if_true, sel_zero, a3, a4, a5, Option.bind_some]
        rw [if_pos (by omega)]
        rfl
      · simp only [hrb, if_false, sel_one, Bool.false_eq_true]
        simp
theorem signs_loop {s : ByteArray} (hs : s.size < 2 ^ 39) : ∀ (m n i : Nat), i ≤ s.size → n ≤ i → s.size - i < m → ∃ k : Nat, iter m (word_signs_l2 (.str s)) [.int .i64 (n : Int), .int .i64 (i : Int)] = some (0, [.int .i64 (k : Int), .int .i64 (scan s i : Int)])
  | 0, n, i, _, _, h => by omega
  | m + 1, n, i, hi, hn, hm => by
    by_cases h : i < s.size
    · simp only [iter, signs_step (show s.size < 2 ^ 40 by omega) (show n < 2 ^ 40 by omega) h, Option.bind_some]
      rw [scan]
      by_cases h2 : sgn s i = 0
      · have : ¬ (i < s.size ∧ sgn s i ≠ 0) := fun hh => hh.2 h2
        rw [dif_neg this]
        simp only [h2, ne_eq, not_true_eq_false, if_false]
        exact ⟨n, rfl⟩
      · have hle := sgn_le (s := s) (i := i)
        rw [dif_pos ⟨h, h2⟩]
        simp only [ne_eq, h2, not_false_eq_true, if_true]
        exact signs_loop hs m (n + 1) (i + sgn s i) (by omega) (by omega) (by omega)
    · have hf : word_signs_l2 (.str s) [.int .i64 (n : Int), .int .i64 (i : Int)] = some (.done 0 [.int .i64 (n : Int), .int .i64 (i : Int)]) := by
        unfold word_signs_l2
        simp only [ilenS_str, nth_one, nth_zero, ibin_lss, Int.ofNat_lt, Option.bind_some, h, decide_false, icond_false]
      rw [scan, dif_neg (fun hh => h hh.1)]
      exact ⟨n, by simp only [iter, hf, Option.bind_some]⟩
theorem word_Valid_eq {s : ByteArray} (hs : s.size < 2 ^ 19) : word_Valid_s (.str s) = some [.bool (validB s)] := by
  unfold word_Valid_s word_signs_s validB
  obtain ⟨k, hk⟩ := signs_loop (s := s) (by omega) rounds 0 0 (Nat.zero_le _) (Nat.le_refl _) (by have : rounds = 1000000 := rfl; omega)
  rw [show (IV.int .i64 0) = .int .i64 ((0 : Nat) : Int) from rfl, hk]
  simp only [Option.bind_some, sel_zero, nth_zero, nth_one, scal_int, scal_nil, Option.map_some, ilenS_str, ibin_eql, scal_bool]
  congr 3
  exact decide_eq_decide.2 (by omega)
end Go.AM

/- Moves, plainly: times, which may be; the laws of marks that speak of moves. -/
set_option linter.unusedVariables false
set_option linter.unusedSimpArgs false
namespace Go.AM

/-! ### Neighbours -/
def adjB {α : Type} (R : α → α → Bool) : List α → Bool
  | [] => true
  | [_] => true
  | x :: y :: l => R x y && adjB R (y :: l)
theorem adjB_iff {α : Type} {R : α → α → Bool} : ∀ {l : List α}, adjB R l = true ↔ ∀ (i : Nat) (x y : α), l[i]? = some x → l[i + 1]? = some y → R x y = true
  | [] => by simp [adjB]
  | [x] => by simp [adjB]
  | x :: y :: l => by
    simp only [adjB, Bool.and_eq_true]
    rw [adjB_iff]
    constructor
    · rintro ⟨h1, h2⟩ i a b ha hb
      cases i with
      | zero => cases ha; cases hb; exact h1
      | succ i => exact h2 i a b (by simpa using ha) (by simpa using hb)
    · intro h
      exact ⟨h 0 x y rfl rfl, fun i a b ha hb => h (i + 1) a b (by simpa using ha) (by simpa using hb)⟩
theorem adj_anyI {α : Type} {R : α → α → Bool} {l : List α} : anyI (fun i x => decide (0 < i) && !R (l.getD (i - 1) x) x) l 0 = !adjB R l := by
  have key : anyI (fun i x => decide (0 < i) && !R (l.getD (i - 1) x) x) l 0 = false ↔ adjB R l = true := ?_
  · cases h1 : anyI (fun i x => decide (0 < i) && !R (l.getD (i - 1) x) x) l 0 <;> cases h2 : adjB R l <;> simp_all
  rw [anyI_false, adjB_iff]
  constructor
  · intro h i x y hx hy
    have := h (i + 1) y hy
    simp only [Nat.zero_add, Nat.lt_add_left_iff_pos, Bool.and_eq_false_iff, decide_eq_false_iff_not, Bool.not_eq_false', Nat.add_sub_cancel] at this
    have hg : l.getD i y = x := by rw [List.getD_eq_getElem?_getD, hx]; rfl
    rw [hg] at this
    rcases this with h1 | h1
    · omega
    · exact h1
  · intro h i x hx
    simp only [Nat.zero_add, Bool.and_eq_false_iff, decide_eq_false_iff_not, Bool.not_eq_false']
    cases i with
    | zero => exact .inl (by omega)
    | succ i =>
      have hlt := (List.getElem?_eq_some_iff.1 hx).1
      have hp : l[i]? = some l[i] := List.getElem?_eq_getElem (by omega)
      have hg : l.getD i x = l[i] := by rw [List.getD_eq_getElem?_getD, hp]; rfl
      rw [Nat.add_sub_cancel, hg]
      exact .inr (h i _ _ hp hx)
theorem anyI_or {α : Type} {p q : Nat → α → Bool} : ∀ {l : List α} {k : Nat}, anyI (fun i x => p i x || q i x) l k = (anyI p l k || anyI q l k)
  | [], _ => rfl
  | x :: l, k => by
    simp only [anyI, anyI_or]
    cases p k x <;> cases q k x <;> simp

/-! ### Which may be -/
def befB (c r c' r' : Int) : Bool := decide (c < c') || decide (c = c') && decide (r < r')
def befV (a b : Mv) : Bool := befB a.c a.r b.c b.r
def rowB (ch par : Int) (nm : ByteArray) : Bool := decide (1 ≤ ch) && decide (ch ≤ 2147483647) && decide (0 ≤ par) && decide (par ≤ 2147483647) && decide (nm.size ≤ 64) && validB nm
def oneV (m : Mv) : Bool := timeB m.c m.r && rowB m.ch m.par m.nm
def mayV (l : List Mv) : Bool := decide (l.length ≤ 2000) && (l.all oneV && adjB befV l)

theorem ref02_Before_eq (c r c' r' : Int) : ref02_Before_s (.int .i64 c) (.int .i64 r) (.int .i64 c') (.int .i64 r') = some [.bool (befB c r c' r')] := by
  unfold ref02_Before_s befB
  simp only [ibin_lss, ibin_eql, Option.bind_some, icond_dec]
  by_cases h1 : c < c'
  · simp [h1]
  · by_cases h2 : c = c' <;> simp [h1, h2]
theorem ref12_One_eq (ch par : Int) (nm : ByteArray) (x : IV) : ref12_One_s (.int .i64 ch) (.int .i64 par) (.str nm) x = some [.bool (rowB ch par nm)] := by
  unfold ref12_One_s rowB
  simp only [ibin_geq, ibin_leq, ilenS_str, Option.bind_some, icond_dec]
  by_cases h1 : 1 ≤ ch
  · by_cases h2 : ch ≤ 2147483647
    · by_cases h3 : 0 ≤ par
      · by_cases h4 : par ≤ 2147483647
        · by_cases h5 : nm.size ≤ 64
          · have : ((nm.size : Int) ≤ 64) := by omega
            simp [h1, h2, h3, h4, h5, this, ref04_Valid_eq (show nm.size < 2 ^ 19 by omega)]
          · have : ¬ ((nm.size : Int) ≤ 64) := by omega
            simp [h1, h2, h3, h4, h5, this]
        · simp [h1, h2, h3, h4]
      · simp [h1, h2, h3]
    · simp [h1, h2]
  · simp [h1]
theorem tree_One_eq (ch par : Int) (nm : ByteArray) (x : IV) : tree_One_s (.int .i64 ch) (.int .i64 par) (.str nm) x = some [.bool (rowB ch par nm)] := by
  unfold tree_One_s rowB
  simp only [ibin_geq, ibin_leq, ilenS_str, Option.bind_some, icond_dec]
  by_cases h1 : 1 ≤ ch
  · by_cases h2 : ch ≤ 2147483647
    · by_cases h3 : 0 ≤ par
      · by_cases h4 : par ≤ 2147483647
        · by_cases h5 : nm.size ≤ 64
          · have : ((nm.size : Int) ≤ 64) := by omega
            simp [h1, h2, h3, h4, h5, this, word_Valid_eq (show nm.size < 2 ^ 19 by omega)]
          · have : ¬ ((nm.size : Int) ≤ 64) := by omega
            simp [h1, h2, h3, h4, h5, this]
        · simp [h1, h2, h3, h4]
      · simp [h1, h2, h3]
    · simp [h1, h2]
  · simp [h1]
theorem ref13_Row_eq (m : Mv) : ref13_Row_s (.int .i64 m.c) (.int .i64 m.r) (.int .i64 m.par) (.int .i64 m.ch) (.str m.nm) (.flt .f64 m.rk) = some [.int .i64 m.ch, .int .i64 m.par, .str m.nm, .flt .f64 m.rk] := by
  unfold ref13_Row_s; simp
theorem moves_Row_eq (m : Mv) : moves_Row_s (.int .i64 m.c) (.int .i64 m.r) (.int .i64 m.par) (.int .i64 m.ch) (.str m.nm) (.flt .f64 m.rk) = some [.int .i64 m.ch, .int .i64 m.par, .str m.nm, .flt .f64 m.rk] := by
  unfold moves_Row_s; simp
theorem ref13_One_eq (m : Mv) : ref13_One_s (.int .i64 m.c) (.int .i64 m.r) (.int .i64 m.par) (.int .i64 m.ch) (.str m.nm) (.flt .f64 m.rk) = some [.bool (oneV m)] := by
  unfold ref13_One_s oneV
  simp only [ref13_Time_eq, ref13_Row_eq, Option.bind_some, nth_zero, nth_one, nth_two, nth_three, ref12_One_eq, icond_mb, scal_bool, scal_nil, Option.map_some]
  cases timeB m.c m.r <;> rfl
theorem ref13_May_eq (l : List Mv) : ref13_May_s (eMvs l) = some [.bool (mayV l)] := by
  unfold ref13_May_s mayV
  simp only [ilenL_lst, Option.bind_some, ibin_gtr, List.length_map, icond_dec]
  by_cases h : l.length ≤ 2000
  · rw [if_neg (by omega)]
    rw [iter_check (vs0 := [.int .i64 0]) (fun i => [IV.int .i64 (i : Int)]) (fun i x => !oneV x || (decide (0 < i) && !befV (l.getD (i - 1) x) x)) 1 [.bool false] 0 [] l rfl (by have := rounds_eq; omega), anyI_or, adj_anyI, anyI_any]
    · have : (l.any fun x => !oneV x) = !l.all oneV := by
        rw [List.any_eq_not_all_not]
        simp only [Bool.not_not]
      rw [this]
      simp only [h, decide_true, Bool.true_and]
      cases l.all oneV <;> cases adjB befV l <;> simp
    · intro i x hx
      have hi : i < l.length := (List.getElem?_eq_some_iff.1 hx).1
      unfold ref13_May_l4
      simp only [ilenL_lst, nth_zero, nth_one, nth_two, nth_three, nth_four, nth_five, ibin_lss, ibin_gtr, List.length_map, Int.ofNat_lt, at_Mv hx, decide_true, icond_true, Option.bind_some, icond_dec, ibin_succ (show i < 2 ^ 62 by omega), ref13_One_eq, iun_not, icond_bool]
      by_cases h1 : oneV x = true
      · by_cases h5 : 0 < i
        · have hp : l[i - 1]? = some (l.getD (i - 1) x) := by
            rw [List.getD_eq_getElem?_getD, List.getElem?_eq_getElem (by omega)]; rfl
          simp only [h1, Bool.not_true, Bool.false_eq_true, if_false, show (0 : Int) < (i : Int) by omega, h5, if_true, ibin_pred (show i < 2 ^ 62 by omega) h5, Option.bind_some, at_Mv hp, at_Mv hx, nth_zero, nth_one, ref02_Before_eq, iun_not, icond_bool, decide_true, Bool.true_and, Bool.false_or, befV]
          cases befB (l.getD (i - 1) x).c (l.getD (i - 1) x).r x.c x.r <;> simp
        · simp [h1, h5, show ¬ ((0 : Int) < (i : Int)) by omega]
      · simp [h1]
    · unfold ref13_May_l4
      simp
  · rw [if_pos (by omega)]
    simp [h]

/-! ### Moves that may be, and their marks -/
theorem fewV_len {l : List Mv} {n : Nat} (h : fewV l n = true) : l.length ≤ n := by
  unfold fewV at h
  simp only [Bool.and_eq_true, decide_eq_true_eq] at h
  exact h.1
theorem islcL_hi {l : List Mv} {i : Nat} (hi : i ≤ l.length) : islcL 6 (eMvs l) none (some (.int .i64 (i : Int))) = some (eMvs (l.take i)) := by
  simp only [islcL]
  rw [if_pos (by simp [eMv])]
  simp only [List.length_map, ibnds_hi hi, Option.bind_some, List.drop_zero, Nat.sub_zero]
  rw [← List.map_take]
theorem islcL_lo {l : List Mv} {i : Nat} (hi : i ≤ l.length) : islcL 6 (eMvs l) (some (.int .i64 (i : Int))) none = some (eMvs (l.drop i)) := by
  simp only [islcL]
  rw [if_pos (by simp [eMv])]
  simp only [List.length_map, ibnds_lo hi, Option.bind_some]
  rw [← List.map_drop, List.take_of_length_le (by simp)]
end Go.AM

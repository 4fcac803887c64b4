/- Marks: what may be; joined; below; the laws of them. -/
import Derived.Test.YtjgbgmedbfhgdaaGreatMk
import Derived.Test.YtjgbgmedbfhgdaaGreatSh
import Derived.Test.YtjgbgmedbfhgdaaGreatAe
set_option linter.unusedVariables false
set_option linter.unusedSimpArgs false
namespace Go.AM

/-- Marks that may be. -/
structure MayP (v : List Mark) : Prop where
  sorted : v.Pairwise fun a b => a.r < b.r
  ok : ∀ x ∈ v, 1 ≤ x.r ∧ x.r ≤ 255 ∧ 1 ≤ x.c ∧ x.c ≤ 4611686018427387903
theorem pairwise_of_adj {α : Type} {R : α → α → Prop} (htr : ∀ a b c, R a b → R b c → R a c) {v : List α} (h : ∀ (i : Nat) (hi : i + 1 < v.length), R v[i] v[i + 1]) : v.Pairwise R := by
  rw [List.pairwise_iff_getElem]
  intro i j hi hj hij
  obtain ⟨k, rfl⟩ : ∃ k, j = i + 1 + k := ⟨j - (i + 1), by omega⟩
  induction k with
  | zero => exact h i hj
  | succ k ih => exact htr _ _ _ (ih (by omega) (by omega)) (h (i + 1 + k) hj)
theorem mayM_iff {v : List Mark} : mayM v = true ↔ MayP v := by
  unfold mayM
  rw [Bool.not_eq_true', anyI_false]
  constructor
  · intro h
    refine ⟨pairwise_of_adj (fun a b c h1 h2 => by omega) fun i hi => ?_, fun x hx => ?_⟩
    · have := h (i + 1) v[i + 1] (List.getElem?_eq_getElem hi)
      simp only [Bool.or_eq_false_iff, Bool.and_eq_false_iff, decide_eq_false_iff_not, Nat.zero_add] at this
      have h5 := this.2
      have hg : v.getD (i + 1 - 1) v[i + 1] = v[i] := by
        rw [Nat.add_sub_cancel, List.getD_eq_getElem?_getD, List.getElem?_eq_getElem (by omega)]; rfl
      rw [hg] at h5
      omega
    · obtain ⟨i, hi⟩ := List.getElem?_of_mem hx
      have := h i x hi
      simp only [Bool.or_eq_false_iff, decide_eq_false_iff_not] at this
      omega
  · intro h i x hx
    have h1 := h.ok x (List.mem_of_getElem? hx)
    simp only [Bool.or_eq_false_iff, Bool.and_eq_false_iff, decide_eq_false_iff_not, Nat.zero_add]
    refine ⟨by omega, ?_⟩
    by_cases hi : 0 < i
    · refine .inr ?_
      have hlt := (List.getElem?_eq_some_iff.1 hx).1
      have hg : v.getD (i - 1) x = v[i - 1] := by
        rw [List.getD_eq_getElem?_getD, List.getElem?_eq_getElem (by omega)]; rfl
      have := List.pairwise_iff_getElem.1 h.sorted (i - 1) i (by omega) hlt (by omega)
      rw [hg]
      have hxx : v[i] = x := by have := (List.getElem?_eq_some_iff.1 hx).2; exact this
      rw [hxx] at this
      omega
    · exact .inl hi
theorem MayP.tail {x : Mark} {v : List Mark} (h : MayP (x :: v)) : MayP v := ⟨(List.pairwise_cons.1 h.sorted).2, fun y hy => h.ok y (List.mem_cons_of_mem _ hy)⟩
theorem MayP.nil : MayP [] := ⟨.nil, fun x hx => by simp at hx⟩
theorem getM_none {v : List Mark} {r : Int} (h : ∀ x ∈ v, x.r ≠ r) : getM v r = 0 := by
  induction v with
  | nil => rfl
  | cons x v ih => rw [getM, if_neg (h x List.mem_cons_self)]; exact ih fun y hy => h y (List.mem_cons_of_mem _ hy)
theorem MayP.head_none {x : Mark} {v : List Mark} (h : MayP (x :: v)) {r : Int} (hr : r ≤ x.r) : getM v r = 0 :=
  getM_none fun y hy => by have := (List.pairwise_cons.1 h.sorted).1 y hy; omega
theorem MayP.nonneg {v : List Mark} (h : MayP v) (r : Int) : 0 ≤ getM v r := by
  induction v with
  | nil => exact Int.le_refl _
  | cons x v ih =>
    rw [getM]
    split
    · have := h.ok x List.mem_cons_self; omega
    · exact ih h.tail
theorem MayP.mem {v : List Mark} (h : MayP v) {x : Mark} (hx : x ∈ v) : getM v x.r = x.c := by
  induction v with
  | nil => simp at hx
  | cons y v ih =>
    rw [getM]
    rcases List.mem_cons.1 hx with rfl | hx
    · rw [if_pos rfl]
    · have := (List.pairwise_cons.1 h.sorted).1 x hx
      rw [if_neg (by omega)]
      exact ih h.tail hx
theorem MayP.ext : ∀ {v w : List Mark}, MayP v → MayP w → (∀ r, getM v r = getM w r) → v = w
  | [], [], _, _, _ => rfl
  | [], y :: w, _, hw, h => by
    have := h y.r
    rw [hw.mem List.mem_cons_self] at this
    have h1 := hw.ok y List.mem_cons_self
    simp only [getM] at this
    omega
  | x :: v, [], hv, _, h => by
    have := h x.r
    rw [hv.mem List.mem_cons_self] at this
    have h1 := hv.ok x List.mem_cons_self
    simp only [getM] at this
    omega
  | x :: v, y :: w, hv, hw, h => by
    have h1 := hv.ok x List.mem_cons_self
    have h2 := hw.ok y List.mem_cons_self
    have e : x.r = y.r := by
      rcases Int.lt_trichotomy x.r y.r with hlt | he | hlt
      · have := h x.r
        rw [hv.mem List.mem_cons_self, getM, if_neg (by omega), hw.head_none (by omega)] at this
        omega
      · exact he
      · have := h y.r
        rw [hw.mem List.mem_cons_self, getM, if_neg (by omega), hv.head_none (by omega)] at this
        omega
    have ec : x.c = y.c := by
      have := h x.r
      rw [getM, if_pos rfl, getM, if_pos e.symm] at this
      exact this
    have hxy : x = y := by cases x; cases y; simp_all
    subst hxy
    congr 1
    refine MayP.ext hv.tail hw.tail fun r => ?_
    have := h r
    rw [getM, getM] at this
    by_cases hr : x.r = r
    · rw [hv.head_none (by omega), hw.head_none (by omega)]
    · rw [if_neg hr, if_neg hr] at this; exact this

theorem hasM_false {v : List Mark} {r : Int} (h : ¬ (hasM v r = true)) : ∀ x ∈ v, x.r ≠ r := fun x hx e => h (List.any_eq_true.2 ⟨x, hx, by simp [isR, e]⟩)
theorem getM_setM {c r r' : Int} : ∀ {v : List Mark}, hasM v r = true → getM (setM v c r) r' = if r' = r then max (getM v r) c else getM v r'
  | [], h => by simp [hasM] at h
  | x :: v, h => by
    by_cases hx : x.r = r
    · simp only [setM, hx, if_true, getM]
      by_cases hr : r' = r
      · simp [hr]
      · have : ¬ r = r' := fun e => hr e.symm
        simp [hr, this]
    · have hv : hasM v r = true := by
        simp only [hasM, List.any_cons, isR, hx, decide_false, Bool.false_or] at h
        exact h
      simp only [setM, hx, if_false, getM]
      by_cases hr : r' = r
      · subst hr
        simp only [hx, if_false, if_true]
        rw [getM_setM hv, if_pos rfl]
      · simp only [hr, if_false]
        rw [getM_setM hv, if_neg hr]
theorem getM_insM {c r r' : Int} : ∀ {v : List Mark}, (∀ x ∈ v, x.r ≠ r) → getM (insM v c r) r' = if r' = r then c else getM v r'
  | [], h => by
    simp only [insM, getM]
    by_cases hr : r' = r
    · simp [hr]
    · have : ¬ r = r' := fun e => hr e.symm
      simp [hr, this]
  | x :: v, h => by
    have hx := h x List.mem_cons_self
    simp only [insM]
    split
    · simp only [getM]
      by_cases hr : r' = r
      · simp [hr]
      · have : ¬ r = r' := fun e => hr e.symm
        simp [hr, this]
    · simp only [getM]
      rw [getM_insM fun y hy => h y (List.mem_cons_of_mem _ hy)]
      by_cases hr : r' = r
      · subst hr; simp [hx]
      · simp [hr]
theorem getM_raise (v : List Mark) (c r r' : Int) : getM (raiseM v c r) r' = if r' = r then max (getM v r) c else getM v r' := by
  unfold raiseM
  split
  · rename_i h; exact getM_setM h
  · rename_i h
    have h0 := getM_none (hasM_false h)
    split
    · by_cases hr : r' = r
      · subst hr; rw [if_pos rfl, h0]; omega
      · rw [if_neg hr]
    · rw [getM_insM (hasM_false h)]
      by_cases hr : r' = r
      · subst hr; rw [if_pos rfl, if_pos rfl, h0]; omega
      · rw [if_neg hr, if_neg hr]
theorem setM_mem {c r : Int} : ∀ {v : List Mark} {y : Mark}, y ∈ setM v c r → ∃ x ∈ v, x.r = y.r ∧ (y = x ∨ (x.r = r ∧ y.c = max x.c c))
  | [], y, h => by simp [setM] at h
  | x :: v, y, h => by
    simp only [setM] at h
    split at h
    · rename_i hx
      rcases List.mem_cons.1 h with rfl | h
      · exact ⟨x, List.mem_cons_self, rfl, .inr ⟨hx, rfl⟩⟩
      · exact ⟨y, List.mem_cons_of_mem _ h, rfl, .inl rfl⟩
    · rcases List.mem_cons.1 h with rfl | h
      · exact ⟨y, List.mem_cons_self, rfl, .inl rfl⟩
      · obtain ⟨z, hz, h1, h2⟩ := setM_mem h
        exact ⟨z, List.mem_cons_of_mem _ hz, h1, h2⟩
theorem insM_mem {c r : Int} : ∀ {v : List Mark} {y : Mark}, y ∈ insM v c r → y ∈ v ∨ y = ⟨r, c⟩
  | [], y, h => by simp [insM] at h; exact .inr h
  | x :: v, y, h => by
    simp only [insM] at h
    split at h
    · rcases List.mem_cons.1 h with rfl | h
      · exact .inr rfl
      · exact .inl h
    · rcases List.mem_cons.1 h with rfl | h
      · exact .inl List.mem_cons_self
      · rcases insM_mem h with h | h
        · exact .inl (List.mem_cons_of_mem _ h)
        · exact .inr h
theorem setM_sorted {c r : Int} : ∀ {v : List Mark}, v.Pairwise (fun a b => a.r < b.r) → (setM v c r).Pairwise fun a b => a.r < b.r
  | [], _ => .nil
  | x :: v, h => by
    obtain ⟨h1, h2⟩ := List.pairwise_cons.1 h
    simp only [setM]
    split
    · exact List.pairwise_cons.2 ⟨h1, h2⟩
    · refine List.pairwise_cons.2 ⟨fun y hy => ?_, setM_sorted h2⟩
      obtain ⟨z, hz, e, _⟩ := setM_mem hy
      rw [← e]; exact h1 z hz
theorem insM_sorted {c r : Int} : ∀ {v : List Mark}, (∀ x ∈ v, x.r ≠ r) → v.Pairwise (fun a b => a.r < b.r) → (insM v c r).Pairwise fun a b => a.r < b.r
  | [], _, _ => List.pairwise_singleton _ _
  | x :: v, hn, h => by
    obtain ⟨h1, h2⟩ := List.pairwise_cons.1 h
    have hx := hn x List.mem_cons_self
    simp only [insM]
    split
    · rename_i hr
      refine List.pairwise_cons.2 ⟨fun y hy => ?_, h⟩
      rcases List.mem_cons.1 hy with rfl | hy
      · exact hr
      · have := h1 y hy; show r < y.r; omega
    · refine List.pairwise_cons.2 ⟨fun y hy => ?_, insM_sorted (fun y hy => hn y (List.mem_cons_of_mem _ hy)) h2⟩
      rcases insM_mem hy with hy | rfl
      · exact h1 y hy
      · show x.r < r; omega
theorem MayP.raise {v : List Mark} (h : MayP v) {c r : Int} (hr : 1 ≤ r ∧ r ≤ 255) (hc : c ≤ 4611686018427387903) : MayP (raiseM v c r) := by
  unfold raiseM
  split
  · refine ⟨setM_sorted h.sorted, fun y hy => ?_⟩
    obtain ⟨x, hx, e, h1 | ⟨_, h1⟩⟩ := setM_mem hy
    · subst h1; exact h.ok y hx
    · have := h.ok x hx; rw [← e, h1]; omega
  · rename_i hh
    split
    · exact h
    · refine ⟨insM_sorted (hasM_false hh) h.sorted, fun y hy => ?_⟩
      rcases insM_mem hy with hy | rfl
      · exact h.ok y hy
      · show 1 ≤ r ∧ r ≤ 255 ∧ 1 ≤ c ∧ c ≤ 4611686018427387903; omega
theorem MayP.join : ∀ {b a : List Mark}, MayP a → (∀ x ∈ b, 1 ≤ x.r ∧ x.r ≤ 255 ∧ 1 ≤ x.c ∧ x.c ≤ 4611686018427387903) → MayP (joinM a b)
  | [], a, ha, _ => ha
  | x :: b, a, ha, hb => by
    have hx := hb x List.mem_cons_self
    exact MayP.join (b := b) (ha.raise ⟨hx.1, hx.2.1⟩ hx.2.2.2) fun y hy => hb y (List.mem_cons_of_mem _ hy)
theorem getM_join : ∀ {b a : List Mark}, MayP b → (∀ r, 0 ≤ getM a r) → ∀ r, getM (joinM a b) r = max (getM a r) (getM b r)
  | [], a, _, ha, r => by have := ha r; show getM a r = max (getM a r) 0; omega
  | x :: b, a, hb, ha, r => by
    have hx := hb.ok x List.mem_cons_self
    have key : ∀ r, 0 ≤ getM (raiseM a x.c x.r) r := fun r => by
      rw [getM_raise]; have := ha r; split <;> omega
    have := getM_join hb.tail key r
    show getM (joinM (raiseM a x.c x.r) b) r = _
    rw [this, getM_raise, getM]
    by_cases hr : r = x.r
    · subst hr
      rw [if_pos rfl, if_pos rfl, hb.head_none (Int.le_refl _)]
      have := ha x.r
      omega
    · have : ¬ x.r = r := fun e => hr e.symm
      rw [if_neg hr, if_neg this]
theorem belowM_iff {a b : List Mark} (ha : MayP a) (hb : ∀ r, 0 ≤ getM b r) : belowM a b = true ↔ ∀ r, getM a r ≤ getM b r := by
  unfold belowM
  rw [Bool.not_eq_true', ← Bool.not_eq_true, List.any_eq_true]
  constructor
  · intro h r
    by_cases hh : hasM a r = true
    · obtain ⟨x, hx, hp⟩ := List.any_eq_true.1 hh
      simp only [isR, decide_eq_true_eq] at hp
      subst hp
      have : ¬ (decide (getM b x.r < getM a x.r) = true) := fun hd => h ⟨x, hx, hd⟩
      simp only [decide_eq_true_eq] at this
      omega
    · rw [getM_none (hasM_false hh)]; exact hb r
  · rintro h ⟨x, _, hx⟩
    simp only [decide_eq_true_eq] at hx
    have := h x.r
    omega
theorem Bool.eq_of_iff {a b : Bool} (h : a = true ↔ b = true) : a = b := by cases a <;> cases b <;> simp_all

def timeB (c r : Int) : Bool := decide (1 ≤ c) && decide (c ≤ 4611686018427387903) && decide (1 ≤ r) && decide (r ≤ 255)
theorem ref13_Time_eq (c r : Int) : ref13_Time_s (.int .i64 c) (.int .i64 r) = some [.bool (timeB c r)] := by
  unfold ref13_Time_s timeB
  simp only [ibin_geq, ibin_leq, Option.bind_some, icond_dec]
  by_cases h1 : 1 ≤ c
  · by_cases h2 : c ≤ 4611686018427387903
    · by_cases h3 : 1 ≤ r
      · simp [h1, h2, h3]
      · simp [h1, h2, h3]
    · simp [h1, h2]
  · simp [h1]
end Go.AM
/- Texts that are UTF-8: the program's and the references' answers are one. -/
set_option linter.unusedVariables false
set_option linter.unusedSimpArgs false
namespace Go.AM

/-! ### Conditions that are values -/
theorem icond_mb (b c d : Bool) : icond (.bool b) (fun _ => some [IV.bool c]) (fun _ => some [IV.bool d]) = some [IV.bool (cond b c d)] := by cases b <;> rfl
theorem icond_mi (b : Bool) (k : IntKind) (c d : Int) : icond (.bool b) (fun _ => some [IV.int k c]) (fun _ => some [IV.int k d]) = some [IV.int k (cond b c d)] := by cases b <;> rfl

/-- The byte at a place. -/
def byteAt (s : ByteArray) (i : Nat) : Option Nat := (s.data.toList[i]?).map (·.toNat)
def inB (s : ByteArray) (i lo hi : Nat) : Bool := match byteAt s i with | some b => decide (lo ≤ b) && decide (b ≤ hi) | none => false
theorem ba_get (s : ByteArray) (i : Nat) : s[i]? = s.data.toList[i]? := by
  rw [Array.getElem?_toList]
  unfold getElem?
  rfl
theorem ba_size (s : ByteArray) : s.data.toList.length = s.size := by rw [Array.length_toList]; rfl
theorem byteAt_lt {s : ByteArray} {i b : Nat} (h : byteAt s i = some b) : i < s.size ∧ b < 256 := by
  unfold byteAt at h
  obtain ⟨x, hx, rfl⟩ := Option.map_eq_some_iff.1 h
  exact ⟨by rw [← ba_size]; exact (List.getElem?_eq_some_iff.1 hx).1, x.toNat_lt⟩
theorem byteAt_some {s : ByteArray} {i : Nat} (h : i < s.size) : ∃ b, byteAt s i = some b := by
  unfold byteAt
  rw [List.getElem?_eq_getElem (by rw [ba_size]; exact h)]
  exact ⟨_, rfl⟩
theorem byteAt_none {s : ByteArray} {i : Nat} (h : s.size ≤ i) : byteAt s i = none := by
  unfold byteAt
  rw [List.getElem?_eq_none (by rw [ba_size]; exact h)]
  rfl
theorem istr_eq (s : ByteArray) (i : Nat) : istr (.str s) (.int .i64 (i : Int)) = (byteAt s i).map fun b => .int .u8 (b : Int) := by
  simp only [istr, Int.toNat_natCast, ba_get, byteAt, Option.map_map]
  rw [if_pos (by omega)]
  rfl
theorem icii_u8 {b : Nat} (h : b < 256) : icii .i64 (.int .u8 (b : Int)) = some (.int .i64 (b : Int)) := by
  simp only [icii]
  rw [wrap64 (by omega) (by omega)]
theorem ref04_in_eq (s : ByteArray) (i lo hi : Nat) : ref04_in_s (.str s) (.int .i64 (i : Int)) (.int .i64 (lo : Int)) (.int .i64 (hi : Int)) = some [.bool (inB s i lo hi)] := by
  unfold ref04_in_s inB
  simp only [ilenS_str, Option.bind_some, ibin_lss, Int.ofNat_lt, icond_dec]
  by_cases h : i < s.size
  · obtain ⟨b, hb⟩ := byteAt_some h
    have := (byteAt_lt hb).2
    simp only [h, if_true, istr_eq, hb, Option.map_some, Option.bind_some, icii_u8 this, ibin_geq, ibin_leq, icond_dec, Int.ofNat_le]
    by_cases h1 : lo ≤ b <;> simp [h1]
  · simp [h, byteAt_none (Nat.le_of_not_lt h)]
/-- How many bytes the sign has that begins at a place; none: 0. -/
def sgn (s : ByteArray) (i : Nat) : Nat :=
  if inB s i 0 127 = true then 1
  else if (inB s i 194 223 && inB s (i + 1) 128 191) = true then 2
  else if (inB s (i + 2) 128 191 && (inB s i 224 224 && inB s (i + 1) 160 191 || inB s i 225 236 && inB s (i + 1) 128 191 || inB s i 238 239 && inB s (i + 1) 128 191 || inB s i 237 237 && inB s (i + 1) 128 159)) = true then 3
  else if (inB s (i + 2) 128 191 && inB s (i + 3) 128 191 && (inB s i 240 240 && inB s (i + 1) 144 191 || inB s i 241 243 && inB s (i + 1) 128 191 || inB s i 244 244 && inB s (i + 1) 128 143)) = true then 4
  else 0
theorem ibin_addN {i k : Nat} (h : i + k < 2 ^ 62) : ibin .add (.int .i64 (i : Int)) (.int .i64 (k : Int)) = some (.int .i64 ((i + k : Nat) : Int)) := by
  rw [ibin_add (by omega) (by omega)]; rfl
theorem sign_e3 : ∀ (b2 b4 b5 b6 b7 b8 b9 : Bool), (bif b4 then bif b5 then true else bif b6 then bif b2 then true else bif b7 then bif b2 then true else bif b8 then b9 else false else bif b8 then b9 else false else bif b7 then bif b2 then true else bif b8 then b9 else false else bif b8 then b9 else false
          else bif b6 then bif b2 then true else bif b7 then bif b2 then true else bif b8 then b9 else false else bif b8 then b9 else false else bif b7 then bif b2 then true else bif b8 then b9 else false else bif b8 then b9 else false) = (b4 && b5 || b6 && b2 || b7 && b2 || b8 && b9) := by decide
theorem sign_e4 : ∀ (b2 b11 b12 b13 b14 b15 : Bool), (bif b11 then bif b12 then true else bif b13 then bif b2 then true else bif b14 then b15 else false else bif b14 then b15 else false else bif b13 then bif b2 then true else bif b14 then b15 else false else bif b14 then b15 else false) = (b11 && b12 || b13 && b2 || b14 && b15) := by decide
theorem ref04_sign_eq {s : ByteArray} {i : Nat} (h : i < 2 ^ 61) : ref04_sign_s (.str s) (.int .i64 (i : Int)) = some [.int .i64 (sgn s i : Int)] := by
  unfold ref04_sign_s
  have a1 : ibin .add (.int .i64 (i : Int)) (.int .i64 1) = some (.int .i64 ((i + 1 : Nat) : Int)) := ibin_addN (k := 1) (by omega)
  have a2 : ibin .add (.int .i64 (i : Int)) (.int .i64 2) = some (.int .i64 ((i + 2 : Nat) : Int)) := ibin_addN (k := 2) (by omega)
  have a3 : ibin .add (.int .i64 (i : Int)) (.int .i64 3) = some (.int .i64 ((i + 3 : Nat) : Int)) := ibin_addN (k := 3) (by omega)
  have q : ∀ (i lo hi : Nat) (a b : Int), a = (lo : Int) → b = (hi : Int) → ref04_in_s (.str s) (.int .i64 (i : Int)) (.int .i64 a) (.int .i64 b) = some [.bool (inB s i lo hi)] := fun i lo hi a b h1 h2 => by subst h1; subst h2; exact ref04_in_eq s i lo hi
  have q0 := q i 0 127 0 127 rfl rfl
  have q1 := q i 194 223 194 223 rfl rfl
  have q2 := q (i + 1) 128 191 128 191 rfl rfl
  have q3 := q (i + 2) 128 191 128 191 rfl rfl
  have q4 := q i 224 224 224 224 rfl rfl
  have q5 := q (i + 1) 160 191 160 191 rfl rfl
  have q6 := q i 225 236 225 236 rfl rfl
  have q7 := q i 238 239 238 239 rfl rfl
  have q8 := q i 237 237 237 237 rfl rfl
  have q9 := q (i + 1) 128 159 128 159 rfl rfl
  have q10 := q (i + 3) 128 191 128 191 rfl rfl
  have q11 := q i 240 240 240 240 rfl rfl
  have q12 := q (i + 1) 144 191 144 191 rfl rfl
  have q13 := q i 241 243 241 243 rfl rfl
  have q14 := q i 244 244 244 244 rfl rfl
  have q15 := q (i + 1) 128 143 128 143 rfl rfl
  simp only [a1, a2, a3, q0, q1, q2, q3, q4, q5, q6, q7, q8, q9, q10, q11, q12, q13, q14, q15, Option.bind_some, nth_zero, icond_mb, scal_int, scal_nil, Option.map_some, icond_mi]
  unfold sgn
  congr 2
  congr 1
  generalize inB s i 0 127 = b0
  generalize inB s i 194 223 = b1
  generalize inB s (i + 1) 128 191 = b2
  generalize inB s (i + 2) 128 191 = b3
  generalize inB s i 224 224 = b4
  generalize inB s (i + 1) 160 191 = b5
  generalize inB s i 225 236 = b6
  generalize inB s i 238 239 = b7
  generalize inB s i 237 237 = b8
  generalize inB s (i + 1) 128 159 = b9
  generalize inB s (i + 3) 128 191 = b10
  generalize inB s i 240 240 = b11
  generalize inB s (i + 1) 144 191 = b12
  generalize inB s i 241 243 = b13
  generalize inB s i 244 244 = b14
  generalize inB s (i + 1) 128 143 = b15
  rw [sign_e3 b2 b4 b5 b6 b7 b8 b9, sign_e4 b2 b11 b12 b13 b14 b15]
  generalize (b4 && b5 || b6 && b2 || b7 && b2 || b8 && b9) = x
  generalize (b11 && b12 || b13 && b2 || b14 && b15) = y
  cases b0 <;> cases b1 <;> cases b2 <;> cases b3 <;> cases x <;> cases b10 <;> cases y <;> rfl
theorem sgn_le {s : ByteArray} {i : Nat} : i + sgn s i ≤ s.size ∨ sgn s i = 0 := by
  have hin : ∀ {j lo hi : Nat}, inB s j lo hi = true → j < s.size := fun {j lo hi} h => by
    unfold inB at h
    cases hb : byteAt s j with
    | none => rw [hb] at h; cases h
    | some b => exact (byteAt_lt hb).1
  unfold sgn
  split
  · rename_i h; have := hin h; left; omega
  · split
    · rename_i h; simp only [Bool.and_eq_true] at h; have := hin h.2; left; omega
    · split
      · rename_i h; simp only [Bool.and_eq_true] at h; have := hin h.1; left; omega
      · split
        · rename_i h; simp only [Bool.and_eq_true] at h; have := hin h.1.2; left; omega
        · right; rfl
/-- Where the last sign ends. -/
def scan (s : ByteArray) (i : Nat) : Nat := if h : i < s.size ∧ sgn s i ≠ 0 then scan s (i + sgn s i) else i
 termination_by s.size - i
 decreasing_by omega
def validB (s : ByteArray) : Bool := decide (scan s 0 = s.size)
theorem scan_le {s : ByteArray} {i : Nat} (h : i ≤ s.size) : scan s i ≤ s.size := by
  rw [scan]
  split
  · rename_i hh
    have := sgn_le (s := s) (i := i)
    exact scan_le (by omega)
  · exact h
 termination_by s.size - i
theorem first_loop {s : ByteArray} (hs : s.size < 2 ^ 40) : ∀ (n i : Nat), i ≤ s.size → s.size - i < n → iter n (ref04_First_l2 (.str s)) [.int .i64 (i : Int)] = some (if scan s i = s.size then (0, []) else (1, [.int .i64 (scan s i : Int), .bool true]))
  | 0, i, _, h => by omega
  | n + 1, i, hi, hn => by
    have hf : ref04_First_l2 (.str s) [.int .i64 (i : Int)] = some (if i < s.size then (if sgn s i = 0 then .done 1 [.int .i64 (i : Int), .bool true] else .next [.int .i64 ((i + sgn s i : Nat) : Int)]) else .done 0 []) := by
      unfold ref04_First_l2
      have hl : sgn s i ≤ 4 := by unfold sgn; repeat (first | split | omega)
      simp only [ilenS_str, Option.bind_some, nth_zero, ibin_lss, Int.ofNat_lt, icond_dec, ref04_sign_eq (show i < 2 ^ 61 by omega), ibin_eql, ibin_addN (show i + sgn s i < 2 ^ 62 by omega)]
      have : ((sgn s i : Int) = 0) ↔ sgn s i = 0 := by omega
      simp only [this]
      by_cases h1 : i < s.size
      · by_cases h2 : sgn s i = 0 <;> simp [h1, h2]
      · simp [h1]
    simp only [iter, hf, Option.bind_some]
    rw [scan]
    by_cases h1 : i < s.size
    · by_cases h2 : sgn s i = 0
      · have : ¬ (i < s.size ∧ sgn s i ≠ 0) := fun h => h.2 h2
        simp only [h1, h2, if_true, ne_eq, not_true_eq_false, and_false, dite_false]
        rw [if_neg (by omega)]
      · have := sgn_le (s := s) (i := i)
        simp only [h1, h2, if_true, if_false, ne_eq, not_false_eq_true, and_true, dite_true]
        exact first_loop hs n (i + sgn s i) (by omega) (by omega)
    · simp only [h1, if_false, false_and, dite_false]
      rw [if_pos (by omega)]
theorem ref04_Valid_eq {s : ByteArray} (hs : s.size < 2 ^ 19) : ref04_Valid_s (.str s) = some [.bool (validB s)] := by
  unfold ref04_Valid_s ref04_First_s validB
  have := first_loop (s := s) (by omega) rounds 0 (Nat.zero_le _) (by have : rounds = 1000000 := rfl; omega)
  rw [show (IV.int .i64 0) = .int .i64 ((0 : Nat) : Int) from rfl, this]
  by_cases h : scan s 0 = s.size <;> simp [h]

/-! ### The program's -/
/-- What a first byte asks for. -/
def headN (b : Nat) : Nat × Nat × Nat × Bool :=
  if b < 128 then (0, 128, 191, true) else if b < 194 then (0, 128, 191, false) else if b < 224 then (1, 128, 191, true)
  else if b < 240 then (if b = 224 then (2, 160, 191, true) else if b = 237 then (2, 128, 159, true) else (2, 128, 191, true))
  else if b < 245 then (if b = 240 then (3, 144, 191, true) else if b = 244 then (3, 128, 143, true) else (3, 128, 191, true))
  else (0, 128, 191, false)
theorem word_head_eq (b : Nat) : word_head_s (.int .u8 (b : Int)) = some [.int .i64 ((headN b).1 : Int), .int .u8 ((headN b).2.1 : Int), .int .u8 ((headN b).2.2.1 : Int), .bool (headN b).2.2.2] := by
  unfold word_head_s headN
  simp only [ibin_lss, ibin_eql, Option.bind_some, icond_dec]
  have c1 : ((b : Int) < 128) = (b < 128) := propext (by omega)
  have c2 : ((b : Int) < 194) = (b < 194) := propext (by omega)
  have c3 : ((b : Int) < 224) = (b < 224) := propext (by omega)
  have c4 : ((b : Int) < 240) = (b < 240) := propext (by omega)
  have c5 : ((b : Int) < 245) = (b < 245) := propext (by omega)
  have c6 : ((b : Int) = 224) = (b = 224) := propext (by omega)
  have c7 : ((b : Int) = 237) = (b = 237) := propext (by omega)
  have c8 : ((b : Int) = 240) = (b = 240) := propext (by omega)
  have c9 : ((b : Int) = 244) = (b = 244) := propext (by omega)
  simp only [c1, c2, c3, c4, c5, c6, c7, c8, c9]
  repeat (first | rfl | split)
/-- Are the bytes behind the first as they must be? -/
def restB : List Nat → Nat → Nat → Bool
  | [], _, _ => true
  | b :: l, lo, hi => decide (lo ≤ b) && decide (b ≤ hi) && restB l 128 191
def eByte (b : Nat) : List IV := [.int .u8 (b : Int)]
theorem signs_rest {l : List Nat} (hl : l.length < 100) (lo hi : Nat) : iter rounds (word_signs_l6 (.int .i64 (l.length : Int)) (.lst (l.map eByte))) [.int .u8 (lo : Int), .int .u8 (hi : Int), .int .i64 0] = some (if restB l lo hi = true then (0, []) else (1, [])) := by
  rw [iter_for (vs0 := [.int .u8 (lo : Int), .int .u8 (hi : Int), .int .i64 0]) (fun i (s : Nat × Nat) => [IV.int .u8 (s.1 : Int), .int .u8 (s.2 : Int), .int .i64 (i : Int)]) (fun i s b => if b < s.1 ∨ s.2 < b then .inr (1, []) else .inl (128, 191)) (fun _ => (0, [])) (fun _ _ => True) l (lo, hi) rfl (by have : rounds = 1000000 := rfl; omega) trivial]
  · congr 1
    have key : ∀ (l : List Nat) (k lo hi : Nat), runL (fun i (s : Nat × Nat) b => if b < s.1 ∨ s.2 < b then .inr (1, []) else .inl (128, 191)) (fun _ => ((0, []) : Nat × List IV)) l k (lo, hi) = if restB l lo hi = true then (0, []) else (1, []) := by
      intro l
      induction l with
      | nil => intro k lo hi; rfl
      | cons b l ih =>
        intro k lo hi
        simp only [runL, restB]
        by_cases h : b < lo ∨ hi < b
        · rw [if_pos h]
          have : ¬ (decide (lo ≤ b) && decide (b ≤ hi) && restB l 128 191) = true := by
            simp only [Bool.and_eq_true, decide_eq_true_eq]; omega
          simp only [this, if_false, Bool.false_eq_true]
        · rw [if_neg h]
          have h1 : lo ≤ b := by omega
          have h2 : b ≤ hi := by omega
          simp only [h1, h2, decide_true, Bool.true_and]
          exact ih (k + 1) 128 191
    exact key l 0 lo hi
  · intro i s b hb _
    have hi : i < l.length := (List.getElem?_eq_some_iff.1 hb).1
    refine ⟨fun _ _ => trivial, ?_⟩
    unfold word_signs_l6
    simp only [nth_zero, nth_one, nth_two, ibin_lss, ibin_gtr, Option.bind_some, Int.ofNat_lt, hi, decide_true, icond_true, iidx_map (enc := eByte) (sz := 1) hb rfl (Nat.zero_lt_one), ild_map (enc := eByte) hb, eByte, List.getElem?_cons_zero, icond_dec, ibin_succ (show i < 2 ^ 62 by omega)]
    by_cases h1 : b < s.1
    · simp [h1]
    · by_cases h2 : s.2 < b
      · simp [h1, h2]
      · simp [h1, h2]
  · intro s _
    unfold word_signs_l6
    simp
theorem byteAt_map (s : ByteArray) : ∀ i, (s.data.toList.map (·.toNat))[i]? = byteAt s i := fun i => by rw [List.getElem?_map]; rfl
/-- The step of the program's loop: on by a sign, if there is one. -/
theorem sgn_head {s : ByteArray} {i b : Nat} (hb : byteAt s i = some b) : sgn s i = if (headN b).2.2.2 = true ∧ (headN b).1 < s.size - i ∧ restB (((s.data.toList.map (·.toNat)).drop (i + 1)).take (headN b).1) (headN b).2.1 (headN b).2.2.1 = true then 1 + (headN b).1 else 0 := by
  have hi := (byteAt_lt hb).1
  have key : ∀ (n k : Nat), k ≤ s.size → s.size - k ≥ n + 1 → ∃ c, byteAt s k = some c ∧ ((s.data.toList.map (·.toNat)).drop k).take (n + 1) = c :: ((s.data.toList.map (·.toNat)).drop (k + 1)).take n := fun n k hk hn => by
    obtain ⟨c, hc⟩ := byteAt_some (s := s) (i := k) (by omega)
    refine ⟨c, hc, ?_⟩
    have hk' : k < (s.data.toList.map (·.toNat)).length := by rw [List.length_map, ba_size]; omega
    rw [List.drop_eq_getElem_cons hk', List.take_succ_cons]
    congr 1
    have := byteAt_map s k
    rw [List.getElem?_eq_getElem hk', hc] at this
    exact Option.some.inj this
  have none_ : ∀ {k lo hi : Nat}, s.size ≤ k → inB s k lo hi = false := fun {k lo hi} h => by unfold inB; rw [byteAt_none h]
  have some_ : ∀ {k c lo hi : Nat}, byteAt s k = some c → inB s k lo hi = (decide (lo ≤ c) && decide (c ≤ hi)) := fun {k c lo hi} h => by unfold inB; rw [h]
  unfold sgn headN
  simp only [some_ hb]
  by_cases h1 : b < 128
  · have e : 0 < s.size - i := by omega
    simp [h1, restB, e, show b ≤ 127 by omega]
  have n1 : ¬ b ≤ 127 := by omega
  by_cases h2 : b < 194
  · have q1 : ¬ 194 ≤ b := by omega
    have q2 : ¬ 224 ≤ b := by omega
    have q3 : ¬ 225 ≤ b := by omega
    have q4 : ¬ 238 ≤ b := by omega
    have q5 : ¬ 237 ≤ b := by omega
    have q6 : ¬ 240 ≤ b := by omega
    have q7 : ¬ 241 ≤ b := by omega
    have q8 : ¬ 244 ≤ b := by omega
    simp [h1, h2, n1, q1, q2, q3, q4, q5, q6, q7, q8]
  have p1 : 194 ≤ b := by omega
  by_cases h3 : b < 224
  · have q1 : b ≤ 223 := by omega
    have q2 : ¬ 224 ≤ b := by omega
    have q3 : ¬ 225 ≤ b := by omega
    have q4 : ¬ 238 ≤ b := by omega
    have q5 : ¬ 237 ≤ b := by omega
    have q6 : ¬ 240 ≤ b := by omega
    have q7 : ¬ 241 ≤ b := by omega
    have q8 : ¬ 244 ≤ b := by omega
    by_cases hlen : 1 < s.size - i
    · obtain ⟨c1, hc1, t1⟩ := key 0 (i + 1) (by omega) (by omega)
      simp only [List.take_zero, Nat.zero_add] at t1
      simp [h1, h2, h3, n1, p1, q1, q2, q3, q4, q5, q6, q7, q8, hlen, t1, restB, some_ hc1]
    · simp [h1, h2, h3, n1, p1, q1, q2, q3, q4, q5, q6, q7, q8, hlen, none_ (show s.size ≤ i + 1 by omega)]
  have n3 : ¬ b ≤ 223 := by omega
  have p2 : 224 ≤ b := by omega
  by_cases h4 : b < 240
  · have q6 : ¬ 240 ≤ b := by omega
    have q7 : ¬ 241 ≤ b := by omega
    have q8 : ¬ 244 ≤ b := by omega
    by_cases hlen : 2 < s.size - i
    · obtain ⟨c1, hc1, t1⟩ := key 1 (i + 1) (by omega) (by omega)
      obtain ⟨c2, hc2, t2⟩ := key 0 (i + 1 + 1) (by omega) (by omega)
      simp only [List.take_zero, Nat.zero_add] at t2
      simp only [Nat.reduceAdd, t2] at t1
      have hc2' : byteAt s (i + 2) = some c2 := hc2
      by_cases e1 : b = 224
      · subst e1
        simp [hlen, t1, restB, some_ hc1, some_ hc2', Bool.and_comm, Bool.and_left_comm, Bool.and_assoc]
      · by_cases e2 : b = 237
        · subst e2
          simp [hlen, t1, restB, some_ hc1, some_ hc2', Bool.and_comm, Bool.and_left_comm, Bool.and_assoc]
        · have g1 : ¬ b ≤ 224 := by omega
          have g2 : 225 ≤ b := by omega
          have g3 : b ≤ 239 := by omega
          have g4 : (b ≤ 236 ∨ 238 ≤ b) := by omega
          have g5 : ¬ (237 ≤ b ∧ b ≤ 237) := by omega
          simp only [h1, h2, h3, h4, e1, e2, n1, n3, p1, p2, q6, q7, q8, hlen, t1, restB, some_ hc1, some_ hc2', g1, g2, g3, if_true, if_false, decide_true, decide_false, Bool.true_and, Bool.and_true, Bool.false_and, Bool.and_false, Bool.false_eq_true, Bool.false_or, Bool.or_false, true_and]
          rcases g4 with g4 | g4
          · have g6 : ¬ 238 ≤ b := by omega
            have g7 : ¬ (237 ≤ b) := by omega
            simp [g4, g6, g7, Bool.and_comm, Bool.and_left_comm, Bool.and_assoc]
          · have g6 : ¬ b ≤ 236 := by omega
            have g7 : ¬ (b ≤ 237) := by omega
            simp [g4, g6, g7, Bool.and_comm, Bool.and_left_comm, Bool.and_assoc]
    · have z := none_ (lo := 128) (hi := 191) (show s.size ≤ i + 2 by omega)
      simp only [h1, h2, h3, h4, n1, n3, p1, p2, q6, q7, q8, z, if_true, if_false, decide_true, decide_false, Bool.true_and, Bool.and_true, Bool.false_and, Bool.and_false, Bool.false_eq_true, Bool.false_or, Bool.or_false, true_and]
      by_cases e1 : b = 224
      · simp [e1, hlen]
      · by_cases e2 : b = 237
        · simp [e2, hlen]
        · simp [e1, e2, hlen]
  have p3 : 240 ≤ b := by omega
  have r1 : ¬ b ≤ 224 := by omega
  have r2 : ¬ b ≤ 236 := by omega
  have r3 : ¬ b ≤ 239 := by omega
  have r4 : ¬ b ≤ 237 := by omega
  have q240 : ¬ b = 224 := by omega
  by_cases h5 : b < 245
  · by_cases hlen : 3 < s.size - i
    · obtain ⟨c1, hc1, t1⟩ := key 2 (i + 1) (by omega) (by omega)
      obtain ⟨c2, hc2, t2⟩ := key 1 (i + 1 + 1) (by omega) (by omega)
      obtain ⟨c3, hc3, t3⟩ := key 0 (i + 1 + 1 + 1) (by omega) (by omega)
      simp only [List.take_zero, Nat.zero_add] at t3
      simp only [Nat.reduceAdd, t3] at t2
      simp only [Nat.reduceAdd, t2] at t1
      have hc2' : byteAt s (i + 2) = some c2 := hc2
      have hc3' : byteAt s (i + 3) = some c3 := hc3
      by_cases e1 : b = 240
      · subst e1
        simp [hlen, t1, restB, some_ hc1, some_ hc2', some_ hc3', Bool.and_comm, Bool.and_left_comm, Bool.and_assoc]
      · by_cases e2 : b = 244
        · subst e2
          simp [hlen, t1, restB, some_ hc1, some_ hc2', some_ hc3', Bool.and_comm, Bool.and_left_comm, Bool.and_assoc]
        · have g1 : ¬ b ≤ 240 := by omega
          have g2 : 241 ≤ b := by omega
          have g3 : b ≤ 243 := by omega
          have g4 : ¬ 244 ≤ b := by omega
          simp [h1, h2, h3, h4, h5, e1, e2, n1, n3, p1, p2, p3, r1, r2, r3, r4, hlen, t1, restB, some_ hc1, some_ hc2', some_ hc3', g1, g2, g3, g4, Bool.and_comm, Bool.and_left_comm, Bool.and_assoc]
    · have z := none_ (lo := 128) (hi := 191) (show s.size ≤ i + 3 by omega)
      simp only [h1, h2, h3, h4, h5, n1, n3, p1, p2, p3, r1, r2, r3, r4, z, if_true, if_false, decide_true, decide_false, Bool.true_and, Bool.and_true, Bool.false_and, Bool.and_false, Bool.false_eq_true, Bool.false_or, Bool.or_false, true_and]
      by_cases e1 : b = 240
      · simp [e1, hlen]
      · by_cases e2 : b = 244
        · simp [e2, hlen]
        · simp [e1, e2, hlen]
  · have g1 : ¬ b ≤ 240 := by omega
    have g2 : ¬ b ≤ 243 := by omega
    have g3 : ¬ b ≤ 244 := by omega
    simp [h1, h2, h3, h4, h5, n1, n3, p1, p2, p3, r1, r2, r3, r4, g1, g2, g3]
theorem extract_bytes (s : ByteArray) (a b : Nat) : (s.extract a b).data.toList.map (·.toNat) = ((s.data.toList.map (·.toNat)).drop a).take (b - a) := by
  have : (s.extract a b).data = s.data.extract a b := by rw [ByteArray.data_extract]
  rw [this, Array.toList_extract, List.extract_eq_take_drop, List.map_take, List.map_drop]
theorem signs_step {s : ByteArray} (hs : s.size < 2 ^ 40) {n i : Nat} (hn : n < 2 ^ 40) (hi : i < s.size) : word_signs_l2 (.str s) [.int .i64 (n : Int), .int .i64 (i : Int)] = some (if sgn s i ≠ 0 then .next [.int .i64 ((n + 1 : Nat) : Int), .int .i64 ((i + sgn s i : Nat) : Int)] else .done 0 [.int .i64 (n : Int), .int .i64 (i : Int)]) := by
  obtain ⟨b, hb⟩ := byteAt_some hi
  have hb8 := (byteAt_lt hb).2
  have hr : (headN b).1 ≤ 3 := by unfold headN; repeat (first | split | simp)
  rw [sgn_head hb]
  unfold word_signs_l2
  have hsub : ibin .sub (.int .i64 (s.size : Int)) (.int .i64 (i : Int)) = some (.int .i64 ((s.size - i : Nat) : Int)) := by
    rw [ibin_sub (by omega) (by omega)]; congr 2; omega
  simp only [ilenS_str, nth_one, nth_zero, nth_two, nth_three, ibin_lss, Int.ofNat_lt, Option.bind_some, hi, decide_true, icond_true, istr_eq, hb, Option.map_some, word_head_eq, iun_not, hsub, ibin_leq, Int.ofNat_le, icond_bool, Bool.not_eq_true']
  generalize hx : headN b = x at hr ⊢
  obtain ⟨rest, lo, hi', is⟩ := x
  simp only at hr ⊢
  cases is with
  | false => simp
  | true =>
    simp only [Bool.true_eq_false, if_false, Option.bind_some, nth_zero, true_and]
    by_cases hle : s.size - i ≤ rest
    · have : ¬ rest < s.size - i := by omega
      simp [hle, this]
    · have hlt : rest < s.size - i := by omega
      have a1 : ibin .add (.int .i64 (i : Int)) (.int .i64 1) = some (.int .i64 ((i + 1 : Nat) : Int)) := ibin_succ (by omega)
      have a2 : ibin .add (.int .i64 ((i + 1 : Nat) : Int)) (.int .i64 (rest : Int)) = some (.int .i64 ((i + 1 + rest : Nat) : Int)) := ibin_addN (by omega)
      have a3 : ibin .add (.int .i64 1) (.int .i64 (rest : Int)) = some (.int .i64 ((1 + rest : Nat) : Int)) := ibin_addN (i := 1) (by omega)
      have a4 : ibin .add (.int .i64 (i : Int)) (.int .i64 ((1 + rest : Nat) : Int)) = some (.int .i64 ((i + (1 + rest) : Nat) : Int)) := ibin_addN (by omega)
      have a5 : ibin .add (.int .i64 (n : Int)) (.int .i64 1) = some (.int .i64 ((n + 1 : Nat) : Int)) := ibin_succ (by omega)
      have bb : ∀ (n i : Nat), i ≤ n → bnd (.int .i64 (i : Int)) n = some i := fun n i h => by
        simp only [bnd]; rw [if_pos (by omega)]; simp
      have hsl : islcS (.str s) (some (.int .i64 ((i + 1 : Nat) : Int))) (some (.int .i64 ((i + 1 + rest : Nat) : Int))) = some (.str (s.extract (i + 1) (i + 1 + rest))) := by
        simp only [islcS, ibnds, bb s.size (i + 1 + rest) (by omega), bb (i + 1 + rest) (i + 1) (by omega), Option.bind_some]
      generalize hl : ((s.data.toList.map (·.toNat)).drop (i + 1)).take rest = l
      have hll : l.length = rest := by
        rw [← hl]; simp only [List.length_take, List.length_drop, List.length_map, ba_size]; omega
      have hcv : icvb (.str (s.extract (i + 1) (i + 1 + rest))) = some (.lst (l.map eByte)) := by
        simp only [icvb]
        congr 2
        have h1 : (s.extract (i + 1) (i + 1 + rest)).data.toList.map (fun b => [IV.int .u8 (b.toNat : Int)]) = ((s.extract (i + 1) (i + 1 + rest)).data.toList.map (·.toNat)).map eByte := by
          rw [List.map_map]; rfl
        rw [h1, extract_bytes, show i + 1 + rest - (i + 1) = rest by omega, hl]
      simp only [decide_eq_true_eq, hle, if_false, a1, a2, hsl, hcv, Option.bind_some, ilenL_lst, List.length_map, signs_rest (show l.length < 100 by omega), decide_false, Bool.false_eq_true, hlt, true_and]
      by_cases hrb : restB l lo hi' = true
      · simp only [hrb, if_true, sel_zero, a3, a4, a5, Option.bind_some]
        rw [if_pos (by omega)]
        rfl
      · simp only [hrb, if_false, sel_one, Bool.false_eq_true]
        simp
theorem signs_loop {s : ByteArray} (hs : s.size < 2 ^ 39) : ∀ (m n i : Nat), i ≤ s.size → n ≤ i → s.size - i < m → ∃ k : Nat, iter m (word_signs_l2 (.str s)) [.int .i64 (n : Int), .int .i64 (i : Int)] = some (0, [.int .i64 (k : Int), .int .i64 (scan s i : Int)])
  | 0, n, i, _, _, h => by omega
  | m + 1, n, i, hi, hn, hm => by
    by_cases h : i < s.size
    · simp only [iter, signs_step (show s.size < 2 ^ 40 by omega) (show n < 2 ^ 40 by omega) h, Option.bind_some]
      rw [scan]
      by_cases h2 : sgn s i = 0
      · have : ¬ (i < s.size ∧ sgn s i ≠ 0) := fun hh => hh.2 h2
        rw [dif_neg this]
        simp only [h2, ne_eq, not_true_eq_false, if_false]
        exact ⟨n, rfl⟩
      · have hle := sgn_le (s := s) (i := i)
        rw [dif_pos ⟨h, h2⟩]
        simp only [ne_eq, h2, not_false_eq_true, if_true]
        exact signs_loop hs m (n + 1) (i + sgn s i) (by omega) (by omega) (by omega)
    · have hf : word_signs_l2 (.str s) [.int .i64 (n : Int), .int .i64 (i : Int)] = some (.done 0 [.int .i64 (n : Int), .int .i64 (i : Int)]) := by
        unfold word_signs_l2
        simp only [ilenS_str, nth_one, nth_zero, ibin_lss, Int.ofNat_lt, Option.bind_some, h, decide_false, icond_false]
      rw [scan, dif_neg (fun hh => h hh.1)]
      exact ⟨n, by simp only [iter, hf, Option.bind_some]⟩
theorem word_Valid_eq {s : ByteArray} (hs : s.size < 2 ^ 19) : word_Valid_s (.str s) = some [.bool (validB s)] := by
  unfold word_Valid_s word_signs_s validB
  obtain ⟨k, hk⟩ := signs_loop (s := s) (by omega) rounds 0 0 (Nat.zero_le _) (Nat.le_refl _) (by have : rounds = 1000000 := rfl; omega)
  rw [show (IV.int .i64 0) = .int .i64 ((0 : Nat) : Int) from rfl, hk]
  simp only [Option.bind_some, sel_zero, nth_zero, nth_one, scal_int, scal_nil, Option.map_some, ilenS_str, ibin_eql, scal_bool]
  congr 3
  exact decide_eq_decide.2 (by omega)
end Go.AM

/- Moves, plainly: times, which may be; the laws of marks that speak of moves. -/
set_option linter.unusedVariables false
set_option linter.unusedSimpArgs false
namespace Go.AM

/-! ### Neighbours -/
def adjB {α : Type} (R : α → α → Bool) : List α → Bool
  | [] => true
  | [_] => true
  | x :: y :: l => R x y && adjB R (y :: l)
theorem adjB_iff {α : Type} {R : α → α → Bool} : ∀ {l : List α}, adjB R l = true ↔ ∀ (i : Nat) (x y : α), l[i]? = some x → l[i + 1]? = some y → R x y = true
  | [] => by simp [adjB]
  | [x] => by simp [adjB]
  | x :: y :: l => by
    simp only [adjB, Bool.and_eq_true]
    rw [adjB_iff]
    constructor
    · rintro ⟨h1, h2⟩ i a b ha hb
      cases i with
      | zero => cases ha; cases hb; exact h1
      | succ i => exact h2 i a b (by simpa using ha) (by simpa using hb)
    · intro h
      exact ⟨h 0 x y rfl rfl, fun i a b ha hb => h (i + 1) a b (by simpa using ha) (by simpa using hb)⟩
theorem adj_anyI {α : Type} {R : α → α → Bool} {l : List α} : anyI (fun i x => decide (0 < i) && !R (l.getD (i - 1) x) x) l 0 = !adjB R l := by
  have key : anyI (fun i x => decide (0 < i) && !R (l.getD (i - 1) x) x) l 0 = false ↔ adjB R l = true := ?_
  · cases h1 : anyI (fun i x => decide (0 < i) && !R (l.getD (i - 1) x) x) l 0 <;> cases h2 : adjB R l <;> simp_all
  rw [anyI_false, adjB_iff]
  constructor
  · intro h i x y hx hy
    have := h (i + 1) y hy
    simp only [Nat.zero_add, Nat.lt_add_left_iff_pos, Bool.and_eq_false_iff, decide_eq_false_iff_not, Bool.not_eq_false', Nat.add_sub_cancel] at this
    have hg : l.getD i y = x := by rw [List.getD_eq_getElem?_getD, hx]; rfl
    rw [hg] at this
    rcases this with h1 | h1
    · omega
    · exact h1
  · intro h i x hx
    simp only [Nat.zero_add, Bool.and_eq_false_iff, decide_eq_false_iff_not, Bool.not_eq_false']
    cases i with
    | zero => exact .inl (by omega)
    | succ i =>
      have hlt := (List.getElem?_eq_some_iff.1 hx).1
      have hp : l[i]? = some l[i] := List.getElem?_eq_getElem (by omega)
      have hg : l.getD i x = l[i] := by rw [List.getD_eq_getElem?_getD, hp]; rfl
      rw [Nat.add_sub_cancel, hg]
      exact .inr (h i _ _ hp hx)
theorem anyI_or {α : Type} {p q : Nat → α → Bool} : ∀ {l : List α} {k : Nat}, anyI (fun i x => p i x || q i x) l k = (anyI p l k || anyI q l k)
  | [], _ => rfl
  | x :: l, k => by
    simp only [anyI, anyI_or]
    cases p k x <;> cases q k x <;> simp

/-! ### Which may be -/
def befB (c r c' r' : Int) : Bool := decide (c < c') || decide (c = c') && decide (r < r')
def befV (a b : Mv) : Bool := befB a.c a.r b.c b.r
def rowB (ch par : Int) (nm : ByteArray) : Bool := decide (1 ≤ ch) && decide (ch ≤ 2147483647) && decide (0 ≤ par) && decide (par ≤ 2147483647) && decide (nm.size ≤ 64) && validB nm
def oneV (m : Mv) : Bool := timeB m.c m.r && rowB m.ch m.par m.nm
def mayV (l : List Mv) : Bool := decide (l.length ≤ 2000) && (l.all oneV && adjB befV l)

theorem ref02_Before_eq (c r c' r' : Int) : ref02_Before_s (.int .i64 c) (.int .i64 r) (.int .i64 c') (.int .i64 r') = some [.bool (befB c r c' r')] := by
  unfold ref02_Before_s befB
  simp only [ibin_lss, ibin_eql, Option.bind_some, icond_dec]
  by_cases h1 : c < c'
  · simp [h1]
  · by_cases h2 : c = c' <;> simp [h1, h2]
theorem ref12_One_eq (ch par : Int) (nm : ByteArray) (x : IV) : ref12_One_s (.int .i64 ch) (.int .i64 par) (.str nm) x = some [.bool (rowB ch par nm)] := by
  unfold ref12_One_s rowB
  simp only [ibin_geq, ibin_leq, ilenS_str, Option.bind_some, icond_dec]
  by_cases h1 : 1 ≤ ch
  · by_cases h2 : ch ≤ 2147483647
    · by_cases h3 : 0 ≤ par
      · by_cases h4 : par ≤ 2147483647
        · by_cases h5 : nm.size ≤ 64
          · have : ((nm.size : Int) ≤ 64) := by omega
            simp [h1, h2, h3, h4, h5, this, ref04_Valid_eq (show nm.size < 2 ^ 19 by omega)]
          · have : ¬ ((nm.size : Int) ≤ 64) := by omega
            simp [h1, h2, h3, h4, h5, this]
        · simp [h1, h2, h3, h4]
      · simp [h1, h2, h3]
    · simp [h1, h2]
  · simp [h1]
theorem tree_One_eq (ch par : Int) (nm : ByteArray) (x : IV) : tree_One_s (.int .i64 ch) (.int .i64 par) (.str nm) x = some [.bool (rowB ch par nm)] := by
  unfold tree_One_s rowB
  simp only [ibin_geq, ibin_leq, ilenS_str, Option.bind_some, icond_dec]
  by_cases h1 : 1 ≤ ch
  · by_cases h2 : ch ≤ 2147483647
    · by_cases h3 : 0 ≤ par
      · by_cases h4 : par ≤ 2147483647
        · by_cases h5 : nm.size ≤ 64
          · have : ((nm.size : Int) ≤ 64) := by omega
            simp [h1, h2, h3, h4, h5, this, word_Valid_eq (show nm.size < 2 ^ 19 by omega)]
          · have : ¬ ((nm.size : Int) ≤ 64) := by omega
            simp [h1, h2, h3, h4, h5, this]
        · simp [h1, h2, h3, h4]
      · simp [h1, h2, h3]
    · simp [h1, h2]
  · simp [h1]
theorem ref13_Row_eq (m : Mv) : ref13_Row_s (.int .i64 m.c) (.int .i64 m.r) (.int .i64 m.par) (.int .i64 m.ch) (.str m.nm) (.flt .f64 m.rk) = some [.int .i64 m.ch, .int .i64 m.par, .str m.nm, .flt .f64 m.rk] := by
  unfold ref13_Row_s; simp
theorem moves_Row_eq (m : Mv) : moves_Row_s (.int .i64 m.c) (.int .i64 m.r) (.int .i64 m.par) (.int .i64 m.ch) (.str m.nm) (.flt .f64 m.rk) = some [.int .i64 m.ch, .int .i64 m.par, .str m.nm, .flt .f64 m.rk] := by
  unfold moves_Row_s; simp
theorem ref13_One_eq (m : Mv) : ref13_One_s (.int .i64 m.c) (.int .i64 m.r) (.int .i64 m.par) (.int .i64 m.ch) (.str m.nm) (.flt .f64 m.rk) = some [.bool (oneV m)] := by
  unfold ref13_One_s oneV
  simp only [ref13_Time_eq, ref13_Row_eq, Option.bind_some, nth_zero, nth_one, nth_two, nth_three, ref12_One_eq, icond_mb, scal_bool, scal_nil, Option.map_some]
  cases timeB m.c m.r <;> rfl
theorem moves_One_eq (m : Mv) : moves_One_s (.int .i64 m.c) (.int .i64 m.r) (.int .i64 m.par) (.int .i64 m.ch) (.str m.nm) (.flt .f64 m.rk) = some [.bool (oneV m)] := by
  unfold moves_One_s oneV timeB
  simp only [moves_Row_eq, ibin_geq, ibin_leq, Option.bind_some, nth_zero, nth_one, nth_two, nth_three, tree_One_eq, icond_dec]
  by_cases h1 : 1 ≤ m.c
  · by_cases h2 : m.c ≤ 4611686018427387903
    · by_cases h3 : 1 ≤ m.r
      · by_cases h4 : m.r ≤ 255
        · simp [h1, h2, h3, h4]
        · simp [h1, h2, h3, h4]
      · simp [h1, h2, h3]
    · simp [h1, h2]
  · simp [h1]
theorem ref13_May_eq (l : List Mv) : ref13_May_s (eMvs l) = some [.bool (mayV l)] := by
  unfold ref13_May_s mayV
  simp only [ilenL_lst, Option.bind_some, ibin_gtr, List.length_map, icond_dec]
  by_cases h : l.length ≤ 2000
  · rw [if_neg (by omega)]
    rw [iter_check (vs0 := [.int .i64 0]) (fun i => [IV.int .i64 (i : Int)]) (fun i x => !oneV x || (decide (0 < i) && !befV (l.getD (i - 1) x) x)) 1 [.bool false] 0 [] l rfl (by have := rounds_eq; omega), anyI_or, adj_anyI, anyI_any]
    · have : (l.any fun x => !oneV x) = !l.all oneV := by
        rw [List.any_eq_not_all_not]
        simp only [Bool.not_not]
      rw [this]
      simp only [h, decide_true, Bool.true_and]
      cases l.all oneV <;> cases adjB befV l <;> simp
    · intro i x hx
      have hi : i < l.length := (List.getElem?_eq_some_iff.1 hx).1
      unfold ref13_May_l4
      simp only [ilenL_lst, nth_zero, nth_one, nth_two, nth_three, nth_four, nth_five, ibin_lss, ibin_gtr, List.length_map, Int.ofNat_lt, at_Mv hx, decide_true, icond_true, Option.bind_some, icond_dec, ibin_succ (show i < 2 ^ 62 by omega), ref13_One_eq, iun_not, icond_bool]
      by_cases h1 : oneV x = true
      · by_cases h5 : 0 < i
        · have hp : l[i - 1]? = some (l.getD (i - 1) x) := by
            rw [List.getD_eq_getElem?_getD, List.getElem?_eq_getElem (by omega)]; rfl
          simp only [h1, Bool.not_true, Bool.false_eq_true, if_false, show (0 : Int) < (i : Int) by omega, h5, if_true, ibin_pred (show i < 2 ^ 62 by omega) h5, Option.bind_some, at_Mv hp, at_Mv hx, nth_zero, nth_one, ref02_Before_eq, iun_not, icond_bool, decide_true, Bool.true_and, Bool.false_or, befV]
          cases befB (l.getD (i - 1) x).c (l.getD (i - 1) x).r x.c x.r <;> simp
        · simp [h1, h5, show ¬ ((0 : Int) < (i : Int)) by omega]
      · simp [h1]
    · unfold ref13_May_l4
      simp
  · rw [if_pos (by omega)]
    simp [h]

/-! ### Moves that may be, and their marks -/
theorem mayV_time {l : List Mv} (h : mayV l = true) : ∀ m ∈ l, 1 ≤ m.c ∧ m.c ≤ 4611686018427387903 ∧ 1 ≤ m.r ∧ m.r ≤ 255 := fun m hm => by
  unfold mayV at h
  simp only [Bool.and_eq_true] at h
  have := List.all_eq_true.1 h.2.1 m hm
  unfold oneV timeB at this
  simp only [Bool.and_eq_true, decide_eq_true_eq] at this
  omega
theorem foldM_may : ∀ {l : List Mv} {v : List Mark}, MayP v → (∀ m ∈ l, 1 ≤ m.c ∧ m.c ≤ 4611686018427387903 ∧ 1 ≤ m.r ∧ m.r ≤ 255) → MayP (l.foldl (fun v m => raiseM v m.c m.r) v)
  | [], v, hv, _ => hv
  | m :: l, v, hv, h => by
    have hm := h m List.mem_cons_self
    exact foldM_may (l := l) (hv.raise (c := m.c) (r := m.r) hm.2.2 hm.2.1) fun x hx => h x (List.mem_cons_of_mem _ hx)
theorem getM_foldM (r : Int) : ∀ (l : List Mv) (v : List Mark), getM (l.foldl (fun v m => raiseM v m.c m.r) v) r = l.foldl (fun n m => if r = m.r then max n m.c else n) (getM v r)
  | [], v => rfl
  | m :: l, v => by
    simp only [List.foldl_cons]
    rw [getM_foldM r l, getM_raise]
    congr 1
    split
    · rename_i e; rw [e]
    · rfl
def supV (r : Int) (l : List Mv) (n : Int) : Int := l.foldl (fun n m => if r = m.r then max n m.c else n) n
theorem supV_ge (r : Int) : ∀ (l : List Mv) (n : Int), n ≤ supV r l n
  | [], n => Int.le_refl _
  | m :: l, n => by
    have := supV_ge r l (if r = m.r then max n m.c else n)
    simp only [supV, List.foldl_cons] at this ⊢
    split at this <;> (split <;> omega)
theorem supV_mem (r : Int) : ∀ (l : List Mv) (n : Int), ∀ m ∈ l, m.r = r → m.c ≤ supV r l n
  | [], n, m, hm, _ => by simp at hm
  | x :: l, n, m, hm, hr => by
    rcases List.mem_cons.1 hm with rfl | hm
    · have := supV_ge r l (if r = m.r then max n m.c else n)
      rw [if_pos hr.symm] at this
      simp only [supV, List.foldl_cons, if_pos hr.symm] at this ⊢
      omega
    · simp only [supV, List.foldl_cons]
      exact supV_mem r l _ m hm hr
theorem supV_max (r : Int) : ∀ (l : List Mv) (n k : Int), supV r l (max n k) = max n (supV r l k)
  | [], n, k => rfl
  | m :: l, n, k => by
    simp only [supV, List.foldl_cons]
    by_cases h : r = m.r
    · simp only [h, if_true]
      have := supV_max m.r l n (max k m.c)
      simp only [supV] at this
      rw [show max (max n k) m.c = max n (max k m.c) by omega]
      exact this
    · simp only [h, if_false]
      exact supV_max r l n k
theorem foldM_mem : ∀ {l : List Mv} {v : List Mark} {x : Mark}, x ∈ l.foldl (fun v m => raiseM v m.c m.r) v → x ∈ v ∨ ∃ m ∈ l, m.c = x.c ∧ m.r = x.r
  | [], v, x, h => .inl h
  | m :: l, v, x, h => by
    rcases foldM_mem (l := l) h with h | ⟨y, hy, h1⟩
    · have h : x ∈ raiseM v m.c m.r := h
      unfold raiseM at h
      split at h
      · obtain ⟨y, hy, e, h2 | ⟨h2, h3⟩⟩ := setM_mem h
        · subst h2; exact .inl hy
        · by_cases hc : m.c ≤ y.c
          · refine .inl ?_
            have : x = y := by cases x; cases y; simp only [Mark.mk.injEq] at *; refine ⟨e.symm, ?_⟩; omega
            rw [this]; exact hy
          · exact .inr ⟨m, List.mem_cons_self, by omega, by omega⟩
      · split at h
        · exact .inl h
        · rcases insM_mem h with h | rfl
          · exact .inl h
          · exact .inr ⟨m, List.mem_cons_self, rfl, rfl⟩
    · exact .inr ⟨y, List.mem_cons_of_mem _ hy, h1⟩
theorem fewV_len {l : List Mv} {n : Nat} (h : fewV l n = true) : l.length ≤ n := by
  unfold fewV at h
  simp only [Bool.and_eq_true, decide_eq_true_eq] at h
  exact h.1
theorem islcL_hi {l : List Mv} {i : Nat} (hi : i ≤ l.length) : islcL 6 (eMvs l) none (some (.int .i64 (i : Int))) = some (eMvs (l.take i)) := by
  simp only [islcL]
  rw [if_pos (by simp [eMv])]
  simp only [List.length_map, ibnds_hi hi, Option.bind_some, List.drop_zero, Nat.sub_zero]
  rw [← List.map_take]
theorem islcL_lo {l : List Mv} {i : Nat} (hi : i ≤ l.length) : islcL 6 (eMvs l) (some (.int .i64 (i : Int))) none = some (eMvs (l.drop i)) := by
  simp only [islcL]
  rw [if_pos (by simp [eMv])]
  simp only [List.length_map, ibnds_lo hi, Option.bind_some]
  rw [← List.map_drop, List.take_of_length_le (by simp)]
theorem ofM_split {l : List Mv} (h : ∀ m ∈ l, 1 ≤ m.c ∧ m.c ≤ 4611686018427387903 ∧ 1 ≤ m.r ∧ m.r ≤ 255) (i : Nat) : ofM l = joinM (ofM (l.take i)) (ofM (l.drop i)) := by
  have ht : ∀ m ∈ l.take i, 1 ≤ m.c ∧ m.c ≤ 4611686018427387903 ∧ 1 ≤ m.r ∧ m.r ≤ 255 := fun m hm => h m (List.mem_of_mem_take hm)
  have hd : ∀ m ∈ l.drop i, 1 ≤ m.c ∧ m.c ≤ 4611686018427387903 ∧ 1 ≤ m.r ∧ m.r ≤ 255 := fun m hm => h m (List.mem_of_mem_drop hm)
  have A := foldM_may MayP.nil h
  have B := foldM_may MayP.nil ht
  have C := foldM_may MayP.nil hd
  refine A.ext (B.join C.ok) fun r => ?_
  have hj := getM_join C B.nonneg r
  have e1 := getM_foldM r l []
  have e2 := getM_foldM r (l.take i) []
  have e3 := getM_foldM r (l.drop i) []
  have h3 := supV_max r (l.drop i) (supV r (l.take i) 0) 0
  have h0 := supV_ge r (l.take i) 0
  have e4 : supV r l 0 = supV r (l.drop i) (supV r (l.take i) 0) := by
    have : l = l.take i ++ l.drop i := (List.take_append_drop i l).symm
    unfold supV
    rw [← List.foldl_append, List.take_append_drop]
  unfold ofM
  rw [hj, e1, e2, e3]
  show supV r l 0 = max (supV r (l.take i) 0) (supV r (l.drop i) 0)
  rw [e4, ← h3]
  congr 1
  omega

theorem topM_max : ∀ (v : List Mark) (n : Int), ∀ x ∈ v, x.c ≤ topM v n
  | [], n, x, h => by simp at h
  | y :: v, n, x, h => by
    rcases List.mem_cons.1 h with rfl | h
    · have := topM_ge v (max n x.c)
      simp only [topM, List.foldl_cons] at this ⊢
      omega
    · exact topM_max v (max n y.c) x h
theorem getM_le_top {v : List Mark} {n : Int} (h0 : 0 ≤ n) (r : Int) : getM v r ≤ topM v n := by
  rw [getM_ix]
  cases h : v.findIdx? (isR r) with
  | none => have := topM_ge v n; simp only; omega
  | some i =>
    obtain ⟨x, hx, _⟩ := findIdx_get h
    have hxx : v.getD i ⟨0, 0⟩ = x := by rw [List.getD_eq_getElem?_getD, hx]; rfl
    simp only [hxx]
    exact topM_max v n x (List.mem_of_getElem? hx)
theorem next_guard (fc fr : Int) : ((ieqs .neq [.i, .i] [.int .i64 fc, .int .i64 fr] [.int .i64 0, .int .i64 0]).bind fun v5 => icond v5 (fun _ => (ref13_Time_s (.int .i64 fc) (.int .i64 fr)).bind fun v6 => (iun .not (nth v6 0)).bind fun v7 => some [v7]) (fun _ => some [.bool false])) = some [.bool (!(decide (fc = 0 ∧ fr = 0) || timeB fc fr))] := by
  simp only [ieqs, ieqL, ieq1, if_true, Option.bind_some, Option.map_some, ref13_Time_eq, nth_zero, iun_not, icond_mb, Bool.and_true]
  by_cases h1 : fc = 0 <;> by_cases h2 : fr = 0 <;> simp [h1, h2]
end Go.AM

/- A row of structs that is sorted in place: worlds behind draws, new blocks and exchanges, however often the tape was asked. -/
import Derived.Test.YtcnafacmpplhbaaAe
import Derived.Test.YtcnafacmpplhbaaAf
import Derived.Lib.QuietBelowIn
import Derived.Shelf.SlSortCmp.KitK
import Derived.Sort.LotA
import Derived.Sort.WalkA
set_option linter.unusedVariables false
set_option linter.unusedSimpArgs false
namespace Go.AM
open Go.Proofs Go.Shelf Go.RowKit Go.Lib Go.Sort
variable {P : Program} {α : Type} [Inhabited α] {enc : α → List Value} {k : Nat} {w0 W : World} {blk off : Nat} {dk d0 : Array α}

def RW (enc : α → List Value) (k : Nat) (w0 : World) (blk off : Nat) (dk : Array α) (W : World) : Prop := ∃ d, SWK enc k (redrawn w0 d) blk off dk W
theorem rowK_redrawn (R : RowK enc k w0 blk off d0) (d : Nat) : RowK enc k (redrawn w0 d) blk off d0 := ⟨R.hk, R.h1, R.hH, R.hblk⟩
theorem RW.start (R : RowK enc k w0 blk off d0) : RW enc k w0 blk off d0 w0 := ⟨w0.drawn, SWK.start R.hH⟩
theorem RW.drew (h : RW enc k w0 blk off dk W) : RW enc k w0 blk off dk W.drew := by
  obtain ⟨d, h⟩ := h; exact ⟨d, h.drew⟩
theorem RW.grow (h : RW enc k w0 blk off dk W) (n : Nat) (os : Array Obj) : RW enc k w0 blk off dk (Go.Sort.grow (W.drewN n) os) := by
  obtain ⟨d, h⟩ := h; exact ⟨d, h.grown n os⟩
theorem RW.load (h : RW enc k w0 blk off dk W) (R : RowK enc k w0 blk off d0) (hs : dk.size = d0.size) (P : Program) (i : Nat) (hi : i < dk.size) :
    Sem.run P (loadCellsFrom ⟨blk, off + i * k, none⟩ 0 k #[]) W = .ok (enc dk[i]!).toArray W := by
  obtain ⟨d, h⟩ := h; exact h.load (rowK_redrawn R d) hs P i hi
theorem RW.st1 (h : RW enc k w0 blk off dk W) (R : RowK enc k w0 blk off d0) (hs : dk.size = d0.size) (P : Program) (i : Nat) (hi : i < dk.size) (y : α) :
    Sem.run P (storeCells ⟨blk, off + i * k, none⟩ (enc y) 0) W.drew = .ok () (W.drew.setCells blk (off + i * k) (enc y)) := by
  obtain ⟨d, h⟩ := h; exact h.st1 (rowK_redrawn R d) hs P i hi y
theorem RW.st2 (h : RW enc k w0 blk off dk W) (R : RowK enc k w0 blk off d0) (hs : dk.size = d0.size) (P : Program) (i j : Nat) (hi : i < dk.size) (hj : j < dk.size) (y x : α) :
    Sem.run P (storeCells ⟨blk, off + j * k, none⟩ (enc x) 0) (W.drew.setCells blk (off + i * k) (enc y)) = .ok () ((W.drew.setCells blk (off + i * k) (enc y)).setCells blk (off + j * k) (enc x)) := by
  obtain ⟨d, h⟩ := h; exact h.st2 (rowK_redrawn R d) hs P i j hi hj y x
theorem RW.swapped (h : RW enc k w0 blk off dk W) (R : RowK enc k w0 blk off d0) (i j : Nat) (hi : i < dk.size) (hj : j < dk.size) :
    RW enc k w0 blk off (swp dk i j) ((W.drew.setCells blk (off + i * k) (enc dk[j]!)).setCells blk (off + j * k) (enc dk[i]!)) := by
  obtain ⟨d, h⟩ := h; exact ⟨d, h.swapped (rowK_redrawn R d) i j hi hj⟩
theorem RW.holds (h : RW enc k w0 blk off dk W) (R : RowK enc k w0 blk off d0) (hs : dk.size = d0.size) : HoldsK enc k W blk off dk := by
  obtain ⟨d, h⟩ := h; exact h.holds R.hblk (d0 := d0) R.hH hs
theorem RW.le (h : RW enc k w0 blk off dk W) : w0.heap.size ≤ W.heap.size := by
  obtain ⟨d, h⟩ := h; exact h.le
/-- A call that only makes memory. -/
theorem RW.below {W' : World} (h : RW enc k w0 blk off dk W) (hb : Below W.heap.size W W') : RW enc k w0 blk off dk W' := by
  obtain ⟨⟨d, os⟩, rfl⟩ := regrown_of_below hb
  obtain ⟨d0, n, os0, rfl⟩ := h
  refine ⟨d, 0, os0 ++ os, ?_⟩
  unfold sortWorldK
  rw [← grow_grow]
  rfl
/-- What is asked of the comparison: it makes memory, at most. -/
def CmpB (P : Program) (g : Nat) (enc : α → List Value) (cf : α → α → Int) : Prop :=
  ∀ (x y : α) (W : World), Calls P g #[.agg (enc x).toArray, .agg (enc y).toArray] W fun e w' => e = .returned (.int .i64 (cf x y)) ∧ RowKit.Below W.heap.size W w'
theorem CmpB.grown {P : Program} {β : Type} {enc : β → List Value} {g : Nat} {cf : β → β → Int} (h : CmpB P g enc cf) (x y : β) (W : World) (n d : Nat) (os : Array Obj) :
    CallsIn Fence.wide n P g #[.agg (enc x).toArray, .agg (enc y).toArray] (Go.Sort.grow (redrawn W d) os) fun e w'' => e = .returned (.int .i64 (cf x y)) ∧ ∃ p : Regrown, w'' = Go.Sort.grow (redrawn W p.d) p.os :=
  CallsIn.regrown_of (callsIn_wide.2 (h x y _))
theorem RW.loads (h : RW enc k w0 blk off dk W) (R : RowK enc k w0 blk off d0) (hs : dk.size = d0.size) (P : Program) (i : Nat) (hi : i < dk.size) (d : Nat) (os : Array Obj) :
    Sem.run P (loadCellsFrom ⟨blk, off + i * k, none⟩ 0 k #[]) (Go.Sort.grow (redrawn W d) os) = .ok (enc dk[i]!).toArray (Go.Sort.grow (redrawn W d) os) :=
  (h.below (below_regrown W d os)).load R hs P i hi
/-- Exchanged, one by one, two runs of n. -/
def swapR (a b : Nat) : Nat → Array α → Array α
  | 0, d => d
  | n + 1, d => swp (swapR a b n d) (a + n) (b + n)
theorem swapR_size (a b : Nat) : ∀ (n : Nat) (d : Array α), (swapR a b n d).size = d.size
  | 0, d => rfl
  | n + 1, d => by rw [swapR, size_swp, swapR_size a b n d]
/-- Two neighbours' places changed: runs of i ahead of m, of j behind it. -/
def rotR (m : Nat) : Nat → Nat → Nat → Array α → Array α
  | 0, _, _, d => d
  | f + 1, i, j, d => if i = j then swapR (m - i) m i d else if j < i then rotR m f (i - j) j (swapR (m - i) m j d) else rotR m f i (j - i) (swapR (m - i) (m + j - i) i d)
theorem rotR_size (m : Nat) : ∀ (f i j : Nat) (d : Array α), (rotR m f i j d).size = d.size
  | 0, _, _, d => rfl
  | f + 1, i, j, d => by
    unfold rotR
    split
    · exact swapR_size _ _ _ _
    · split
      · rw [rotR_size m f, swapR_size]
      · rw [rotR_size m f, swapR_size]
/-- A search by halves: the first place at which the test fails. -/
def bsN (p : Nat → Bool) : Nat → Nat → Nat → Nat
  | 0, i, _ => i
  | f + 1, i, j => if i < j then (if p ((i + j) / 2) = true then bsN p f ((i + j) / 2 + 1) j else bsN p f i ((i + j) / 2)) else i
/-- Exchanges upwards from k, n of them. -/
def upN : Nat → Nat → Array α → Array α
  | _, 0, d => d
  | k, n + 1, d => upN (k + 1) n (swp d k (k + 1))
/-- Exchanges downwards from k, as far as i. -/
def downN (i : Nat) : Nat → Array α → Array α
  | 0, d => d
  | k + 1, d => if i < k + 1 then downN i k (swp d (k + 1) k) else d
/-- slices.symMergeCmpFunc, by fuel. -/
def symN (lt : α → α → Bool) : Nat → Nat → Nat → Nat → Array α → Array α
  | 0, _, _, _, d => d
  | f + 1, a, m, b, d =>
    if m - a = 1 then upN a (bsN (fun h => lt d[h]! d[a]!) (b - m) m b - 1 - a) d
    else if b - m = 1 then downN (bsN (fun h => !lt d[m]! d[h]!) (m - a) a m) m d
    else
      let mid := (a + b) / 2
      let n := mid + m
      let s0 := if mid < m then n - b else a
      let r0 := if mid < m then mid else m
      let s := bsN (fun c => !lt d[n - 1 - c]! d[c]!) (r0 - s0) s0 r0
      let e := n - s
      let d1 := if s < m ∧ m < e then rotR m (e - s) (m - s) (e - m) d else d
      let d2 := if a < s ∧ s < mid then symN lt f a s mid d1 else d1
      if mid < e ∧ e < b then symN lt f mid e b d2 else d2
theorem upN_size : ∀ (n k : Nat) (d : Array α), (upN k n d).size = d.size
  | 0, _, d => rfl
  | n + 1, k, d => by rw [upN, upN_size n, size_swp]
theorem downN_size (i : Nat) : ∀ (k : Nat) (d : Array α), (downN i k d).size = d.size
  | 0, d => rfl
  | k + 1, d => by
    unfold downN
    split
    · rw [downN_size i k, size_swp]
    · rfl
/-- symMerge's end: a rotation, and two merges. -/
def symE (lt : α → α → Bool) (f a m b mid s e : Nat) (d : Array α) : Array α :=
  if mid < e ∧ e < b then symN lt f mid e b (if a < s ∧ s < mid then symN lt f a s mid (if s < m ∧ m < e then rotR m (e - s) (m - s) (e - m) d else d) else (if s < m ∧ m < e then rotR m (e - s) (m - s) (e - m) d else d))
  else (if a < s ∧ s < mid then symN lt f a s mid (if s < m ∧ m < e then rotR m (e - s) (m - s) (e - m) d else d) else (if s < m ∧ m < e then rotR m (e - s) (m - s) (e - m) d else d))
theorem symN_end (lt : α → α → Bool) (f a m b mid n s0 r0 s e : Nat) (d : Array α) (c1 : ¬ m - a = 1) (c2 : ¬ b - m = 1) (h1 : mid = (a + b) / 2) (h2 : n = mid + m) (h3 : s0 = if mid < m then n - b else a) (h4 : r0 = if mid < m then mid else m)
    (h5 : s = bsN (fun c => !lt d[n - 1 - c]! d[c]!) (r0 - s0) s0 r0) (h6 : e = n - s) : symN lt (f + 1) a m b d = symE lt f a m b mid s e d := by
  conv => lhs; unfold symN
  rw [if_neg c1, if_neg c2]
  dsimp only
  rw [← h1, ← h2, ← h3, ← h4, ← h5, ← h6]
  rfl
theorem symN_size (lt : α → α → Bool) : ∀ (f a m b : Nat) (d : Array α), (symN lt f a m b d).size = d.size
  | 0, _, _, _, d => rfl
  | f + 1, a, m, b, d => by
    by_cases c1 : m - a = 1
    · unfold symN; rw [if_pos c1, upN_size]
    · by_cases c2 : b - m = 1
      · unfold symN; rw [if_neg c1, if_pos c2, downN_size]
      · rw [symN_end lt f a m b _ _ _ _ _ _ d c1 c2 rfl rfl rfl rfl rfl rfl]
        unfold symE
        repeat (first | rfl | split | rw [symN_size lt f] | rw [rotR_size])
/-- Blocks of 20 are sorted. -/
def insB (lt : α → α → Bool) (n : Nat) : Nat → Nat → Array α → Array α
  | 0, _, d => d
  | f + 1, a, d => if a + 20 ≤ n then insB lt n f (a + 20) (Sort.insertionSort lt d a (a + 20)) else Sort.insertionSort lt d a n
/-- Blocks of k are merged, two by two. -/
def mrgB (lt : α → α → Bool) (n k : Nat) : Nat → Nat → Array α → Array α
  | 0, _, d => d
  | f + 1, a, d => if a + 2 * k ≤ n then mrgB lt n k f (a + 2 * k) (symN lt n a (a + k) (a + 2 * k) d) else if a + k < n then symN lt n a (a + k) n d else d
/-- All merges. -/
def mrgs (lt : α → α → Bool) (n : Nat) : Nat → Nat → Array α → Array α
  | 0, _, d => d
  | f + 1, k, d => if k < n then mrgs lt n f (2 * k) (mrgB lt n k n 0 d) else d
/-- slices.SortStableFunc. -/
def stblN (lt : α → α → Bool) (d : Array α) : Array α := mrgs lt d.size d.size 20 (insB lt d.size (d.size + 1) 0 d)
end Go.AM
/- Sorting that keeps the order of equals, plainly: an array's parts. -/
set_option linter.unusedVariables false
set_option linter.unusedSimpArgs false
namespace Go.AM
open Go.Sort
variable {α : Type} [Inhabited α] {lt : α → α → Bool}
theorem arr_get {d : Array α} {A B : List α} {x : α} (h : d.toList = A ++ x :: B) : d[A.length]! = x := by
  rw [getElem!_def, ← Array.getElem?_toList, h]
  simp
theorem arr_size {β : Type} {d : Array β} {l : List β} (h : d.toList = l) : d.size = l.length := by rw [← h]; simp
theorem swp_list {d : Array α} {A M B : List α} {x y : α} (h : d.toList = A ++ x :: (M ++ y :: B)) : (swp d A.length (A.length + 1 + M.length)).toList = A ++ y :: (M ++ x :: B) := by
  have h1 := arr_get h
  have h2 : d[A.length + 1 + M.length]! = y := by
    have := arr_get (d := d) (A := A ++ x :: M) (x := y) (B := B) (by rw [h]; simp)
    rw [← this]; congr 1; simp; omega
  unfold swp
  rw [h1, h2]
  apply List.ext_getElem?
  intro k
  simp only [Array.toList_setIfInBounds, h, List.getElem?_set, List.getElem?_append, List.getElem?_cons, List.length_append, List.length_cons, List.length_set]
  by_cases c1 : k = A.length
  · subst c1
    have e1 : ¬ (A.length + 1 + M.length = A.length) := by omega
    simp [e1]
  · by_cases c2 : k = A.length + 1 + M.length
    · subst c2
      have e2 : ¬ (A.length + 1 + M.length < A.length) := by omega
      have e3 : A.length + 1 + M.length - A.length = M.length + 1 := by omega
      simp [e2, e3]
      omega
    · have e1 : ¬ (A.length = k) := by omega
      have e2 : ¬ (A.length + 1 + M.length = k) := by omega
      simp only [e1, e2, if_false]
      by_cases c3 : k < A.length
      · simp [c3]
      · simp only [c3, if_false]
        have c4 : ¬ (k - A.length = 0) := by omega
        simp only [c4, if_false]
        by_cases c5 : k - A.length - 1 < M.length
        · simp [c5]
        · simp only [c5, if_false]
          have c6 : ¬ (k - A.length - 1 - M.length = 0) := by omega
          simp [c6]
theorem swp_comm (d : Array α) (i j : Nat) (hi : i < d.size) (hj : j < d.size) : swp d i j = swp d j i := by
  apply Array.ext_getElem?
  intro k
  unfold swp
  simp only [Array.getElem?_setIfInBounds, Array.size_setIfInBounds]
  by_cases c1 : j = k
  · by_cases c2 : i = k
    · subst c1; subst c2; rfl
    · simp [c1, c2]
  · by_cases c2 : i = k
    · simp [c1, c2]
    · simp [c1, c2]
/-- Neighbours. -/
theorem swp_next {d : Array α} {A B : List α} {x y : α} (h : d.toList = A ++ x :: y :: B) : (swp d A.length (A.length + 1)).toList = A ++ y :: x :: B := swp_list (M := []) h
theorem swp_prev {d : Array α} {A B : List α} {x y : α} (h : d.toList = A ++ x :: y :: B) : (swp d (A.length + 1) A.length).toList = A ++ y :: x :: B := by
  have hs := arr_size h
  simp at hs
  rw [swp_comm d _ _ (by omega) (by omega)]
  exact swp_next h
theorem upN_list : ∀ (R A B : List α) (d : Array α) (x : α), d.toList = A ++ x :: (R ++ B) → (upN A.length R.length d).toList = A ++ (R ++ x :: B)
  | [], A, B, d, x, h => h
  | r :: R, A, B, d, x, h => by
    have h1 := swp_next (d := d) (A := A) (x := x) (y := r) (B := R ++ B) (by rw [h]; simp)
    have h2 := upN_list R (A ++ [r]) B (swp d A.length (A.length + 1)) x (by rw [h1]; simp)
    rw [List.length_append, List.length_singleton] at h2
    rw [List.length_cons, upN, h2]
    simp
theorem downN_list (A : List α) (x : α) : ∀ (L B : List α) (d : Array α), d.toList = A ++ (L ++ x :: B) → (downN A.length (A.length + L.length) d).toList = A ++ x :: (L ++ B) := by
  intro L
  induction L using snocI with
  | h0 =>
    intro B d h
    have : downN A.length (A.length + ([] : List α).length) d = d := by
      cases hA : A.length with
      | zero => rfl
      | succ k => simp [downN]
    rw [this, h]; rfl
  | h1 L y ih =>
    intro B d h
    have e : A.length + (L ++ [y]).length = (A.length + L.length) + 1 := by simp; omega
    rw [e]
    unfold downN
    rw [if_pos (by omega)]
    have h1 := swp_prev (d := d) (A := A ++ L) (x := y) (y := x) (B := B) (by rw [h]; simp)
    rw [List.length_append] at h1
    have h2 := ih (y :: B) _ (by rw [h1]; simp)
    rw [h2]; simp
theorem swapR_list : ∀ (X Y A M B : List α) (d : Array α), X.length = Y.length → d.toList = A ++ (X ++ (M ++ (Y ++ B))) →
    (swapR A.length (A.length + X.length + M.length) X.length d).toList = A ++ (Y ++ (M ++ (X ++ B))) := by
  intro X
  induction X using snocI with
  | h0 =>
    intro Y A M B d hl h
    have : Y = [] := by rw [← List.length_eq_zero_iff, ← hl]; rfl
    subst this
    exact h
  | h1 X x ih =>
    intro Y A M B d hl h
    obtain ⟨Y', y, rfl⟩ : ∃ Y' y, Y = Y' ++ [y] := by
      have hne : Y ≠ [] := by intro e; rw [e] at hl; simp at hl
      exact ⟨Y.dropLast, Y.getLast hne, (List.dropLast_concat_getLast hne).symm⟩
    have hl' : X.length = Y'.length := by simpa using hl
    have e1 : (X ++ [x]).length = X.length + 1 := by simp
    have h1 := ih Y' A (x :: M) (y :: B) d hl' (by rw [h]; simp)
    have e2 : A.length + X.length + (x :: M).length = A.length + (X.length + 1) + M.length := by simp; omega
    rw [e2] at h1
    rw [e1]
    unfold swapR
    generalize swapR A.length (A.length + (X.length + 1) + M.length) X.length d = d1 at h1 ⊢
    have h2 := swp_list (d := d1) (A := A ++ Y') (x := x) (M := M ++ X) (y := y) (B := B) (by rw [h1]; simp)
    have e3 : (A ++ Y').length = A.length + X.length := by simp [hl']
    have e4 : A.length + X.length + 1 + (M ++ X).length = A.length + (X.length + 1) + M.length + X.length := by simp; omega
    rw [e3, e4] at h2
    rw [h2]; simp
theorem split_len {β : Type} (l : List β) (k : Nat) (h : k ≤ l.length) : ∃ X Y, l = X ++ Y ∧ X.length = k ∧ Y.length = l.length - k :=
  ⟨l.take k, l.drop k, (List.take_append_drop k l).symm, by simp [h], by simp⟩
theorem rotR_list : ∀ (f : Nat) (X Y A B : List α) (d : Array α), 0 < X.length → 0 < Y.length → X.length + Y.length ≤ f → d.toList = A ++ (X ++ (Y ++ B)) →
    (rotR (A.length + X.length) f X.length Y.length d).toList = A ++ (Y ++ (X ++ B))
  | 0, X, Y, A, B, d, h1, h2, h3, h => by omega
  | f + 1, X, Y, A, B, d, h1, h2, h3, h => by
    unfold rotR
    split
    · rename_i c
      have := swapR_list X Y A [] B d c (by rw [h]; simp)
      have e : A.length + X.length - X.length = A.length := by omega
      rw [e]
      simpa using this
    · rename_i c
      split
      · rename_i c2
        obtain ⟨X1, X2, rfl, l1, l2⟩ := split_len X Y.length (by omega)
        have k1 := swapR_list X1 Y A X2 B d l1 (by rw [h]; simp)
        have e1 : A.length + (X1 ++ X2).length - (X1 ++ X2).length = A.length := by omega
        have e2 : A.length + X1.length + X2.length = A.length + (X1 ++ X2).length := by simp; omega
        rw [e2, l1] at k1
        rw [e1]
        have e3 : (X1 ++ X2).length - Y.length = X2.length := by rw [l2]
        have e4 : A.length + (X1 ++ X2).length = (A ++ Y).length + X2.length := by simp; omega
        have k2 := rotR_list f X2 X1 (A ++ Y) B (swapR A.length (A.length + (X1 ++ X2).length) Y.length d) (by omega) (by omega) (by omega) (by rw [k1]; simp)
        rw [← e4, l1] at k2
        rw [e3, k2]
        simp
      · rename_i c2
        obtain ⟨Y1, Y2, rfl, l1, l2⟩ := split_len Y (Y.length - X.length) (by omega)
        have l3 : Y2.length = X.length := by rw [l2]; omega
        have k1 := swapR_list X Y2 A Y1 B d l3.symm (by rw [h]; simp)
        have e1 : A.length + X.length - X.length = A.length := by omega
        have e2 : A.length + X.length + (Y1 ++ Y2).length - X.length = A.length + X.length + Y1.length := by rw [List.length_append, l3]; omega
        rw [e1, e2]
        have e3 : (Y1 ++ Y2).length - X.length = Y1.length := l1.symm
        rw [e3]
        have k2 := rotR_list f Y2 Y1 A (X ++ B) (swapR A.length (A.length + X.length + Y1.length) X.length d) (by omega) (by simp at h2 l1 ⊢; omega) (by simp at h3 ⊢; omega) (by rw [k1])
        rw [l3] at k2
        rw [k2]
        simp
/-- The search by halves. -/
theorem bsN_spec (p : Nat → Bool) : ∀ (f i j : Nat), j - i ≤ f → i ≤ j → (∀ c c', i ≤ c → c ≤ c' → c' < j → p c' = true → p c = true) →
    i ≤ bsN p f i j ∧ bsN p f i j ≤ j ∧ (∀ c, i ≤ c → c < bsN p f i j → p c = true) ∧ (∀ c, bsN p f i j ≤ c → c < j → p c = false)
  | 0, i, j, h1, h2, h3 => ⟨Nat.le_refl _, h2, fun c h h' => by unfold bsN at h'; omega, fun c h h' => by unfold bsN at h; omega⟩
  | f + 1, i, j, h1, h2, h3 => by
    unfold bsN
    by_cases c : i < j
    · rw [if_pos c]
      by_cases c2 : p ((i + j) / 2) = true
      · rw [if_pos c2]
        obtain ⟨g1, g2, g3, g4⟩ := bsN_spec p f ((i + j) / 2 + 1) j (by omega) (by omega) fun c c' a1 a2 a3 => h3 c c' (by omega) a2 a3
        refine ⟨by omega, g2, fun c a1 a2 => ?_, g4⟩
        by_cases c3 : (i + j) / 2 + 1 ≤ c
        · exact g3 c c3 a2
        · exact h3 c ((i + j) / 2) a1 (by omega) (by omega) c2
      · rw [if_neg c2]
        obtain ⟨g1, g2, g3, g4⟩ := bsN_spec p f i ((i + j) / 2) (by omega) (by omega) fun c c' a1 a2 a3 => h3 c c' a1 a2 (by omega)
        refine ⟨g1, by omega, g3, fun c a1 a2 => ?_⟩
        by_cases c3 : c < (i + j) / 2
        · exact g4 c a1 c3
        · cases h : p c with
          | false => rfl
          | true => exact absurd (h3 ((i + j) / 2) c (by omega) (by omega) a2 h) c2
    · rw [if_neg c]
      exact ⟨Nat.le_refl _, h2, fun c h h' => by omega, fun c h h' => by omega⟩
/-- A part's elements, by place. -/
theorem part_get {d : Array α} {A L B : List α} (h : d.toList = A ++ (L ++ B)) (k : Nat) (hk : k < L.length) : d[A.length + k]! = L[k] := by
  rw [getElem!_def, ← Array.getElem?_toList, h]
  have : ¬ (A.length + k < A.length) := by omega
  simp [List.getElem?_append, hk, this]
theorem part_srt {d : Array α} {A L B : List α} (hS : SWO lt) (h : d.toList = A ++ (L ++ B)) (hL : Srt lt L) (c c' : Nat) (h1 : A.length ≤ c) (h2 : c ≤ c') (h3 : c' < A.length + L.length) : lt d[c']! d[c]! = false := by
  obtain ⟨k, rfl⟩ : ∃ k, c = A.length + k := ⟨c - A.length, by omega⟩
  obtain ⟨k', rfl⟩ : ∃ k, c' = A.length + k := ⟨c' - A.length, by omega⟩
  rw [part_get h k (by omega), part_get h k' (by omega)]
  rcases Nat.lt_or_ge k k' with hk | hk
  · exact List.pairwise_iff_getElem.1 hL k k' (by omega) (by omega) hk
  · obtain rfl : k = k' := by omega
    exact hS.irrefl _
theorem part_mem {d : Array α} {A L B : List α} (h : d.toList = A ++ (L ++ B)) {x : α} (hx : x ∈ L) : ∃ c, A.length ≤ c ∧ c < A.length + L.length ∧ d[c]! = x := by
  obtain ⟨k, hk, rfl⟩ := List.mem_iff_getElem.1 hx
  exact ⟨A.length + k, by omega, by omega, part_get h k hk⟩
theorem srt_sub {β : Type} {lt : β → β → Bool} {L X Y : List β} (h : L = X ++ Y) (hL : Srt lt L) : Srt lt X ∧ Srt lt Y ∧ ∀ x ∈ X, ∀ y ∈ Y, lt y x = false := by
  subst h
  exact List.pairwise_append.1 hL
theorem mg_nil_srt {β : Type} {lt : β → β → Bool} {R : List β} (h : Srt lt R) : mg lt [] R = R := isrt_of_srt R h
/-- symMerge merges. -/
theorem symN_list (hS : SWO lt) : ∀ (f : Nat) (A L R B : List α) (d : Array α), 0 < L.length → 0 < R.length → L.length + R.length ≤ f → Srt lt L → Srt lt R → d.toList = A ++ (L ++ (R ++ B)) →
    (symN lt f A.length (A.length + L.length) (A.length + L.length + R.length) d).toList = A ++ (mg lt L R ++ B)
  | 0, A, L, R, B, d, h1, h2, h3, hL, hR, h => by omega
  | f + 1, A, L, R, B, d, h1, h2, h3, hL, hR, h => by
    have hRd : d.toList = (A ++ L) ++ (R ++ B) := by rw [h]; simp
    have lAL : (A ++ L).length = A.length + L.length := by simp
    unfold symN
    by_cases c1 : A.length + L.length - A.length = 1
    · rw [if_pos c1]
      obtain ⟨x, rfl⟩ : ∃ x, L = [x] := by
        match L, h1, c1 with
        | [x], _, _ => exact ⟨x, rfl⟩
        | x :: y :: l, _, c => simp at c
      have hx : d[A.length]! = x := arr_get h
      have e0 : A.length + [x].length + R.length - (A.length + [x].length) = R.length := by omega
      rw [e0]
      obtain ⟨g1, g2, g3, g4⟩ := bsN_spec (fun h => lt d[h]! d[A.length]!) R.length (A.length + [x].length) (A.length + [x].length + R.length) (by omega) (by omega) (fun c c' a1 a2 a3 a4 => by
        have := part_srt hS hRd hR c c' (by simpa using a1) a2 (by simpa using a3)
        cases hc : lt d[c]! d[A.length]! with
        | true => rfl
        | false =>
          have := hS.ntrans _ _ _ this hc
          try simp only at a4
          rw [a4] at this; cases this)
      generalize bsN (fun h => lt d[h]! d[A.length]!) R.length (A.length + [x].length) (A.length + [x].length + R.length) = s at g1 g2 g3 g4 ⊢
      obtain ⟨R1, R2, rfl, l1, l2⟩ := split_len R (s - (A.length + [x].length)) (by omega)
      have e1 : s - 1 - A.length = R1.length := by rw [l1]; simp; omega
      have k := upN_list R1 A (R2 ++ B) d x (by rw [h]; simp)
      rw [e1, k]
      have m1 : ∀ r ∈ R1, lt r x = true := by
        intro r hr
        obtain ⟨c, a1, a2, rfl⟩ := part_mem (d := d) (A := A ++ [x]) (L := R1) (B := R2 ++ B) (by rw [h]; simp) hr
        have := g3 c (by simpa using a1) (by simp at a2 g1 l1; omega)
        try simp only at this
        rw [hx] at this
        exact this
      have m2 : ∀ r ∈ R2, lt r x = false := by
        intro r hr
        obtain ⟨c, a1, a2, rfl⟩ := part_mem (d := d) (A := A ++ [x] ++ R1) (L := R2) (B := B) (by rw [h]; simp) hr
        have := g4 c (by simp at a1 l1 g1; omega) (by simp at a2 g1 l1 l2 ⊢; omega)
        try simp only at this
        rw [hx] at this
        exact this
      obtain ⟨s1, s2, s3⟩ := srt_sub rfl hR
      have hm := mg_split [] [x] R1 R2 (fun r hr l hl => by simp at hl; rw [hl]; exact m1 r hr) (fun r hr l hl => by simp at hl) (fun r hr l hl => s3 l hl r hr)
      have hm2 := mg_right (lt := lt) [x] [] R2 (fun r hr l hl => by simp at hl; rw [hl]; exact m2 r hr)
      rw [List.nil_append] at hm
      rw [List.append_nil] at hm2
      rw [hm, mg_nil_srt s1, hm2, mg_nil_srt s2]
      simp
    · rw [if_neg c1]
      by_cases c2 : A.length + L.length + R.length - (A.length + L.length) = 1
      · rw [if_pos c2]
        obtain ⟨y, rfl⟩ : ∃ x, R = [x] := by
          match R, h2, c2 with
          | [x], _, _ => exact ⟨x, rfl⟩
          | x :: y :: l, _, c => simp at c
        have hy : d[A.length + L.length]! = y := by rw [← lAL]; exact arr_get hRd
        have e0 : A.length + L.length - A.length = L.length := by omega
        rw [e0]
        obtain ⟨g1, g2, g3, g4⟩ := bsN_spec (fun h => !lt d[A.length + L.length]! d[h]!) L.length A.length (A.length + L.length) (by omega) (by omega) (fun c c' a1 a2 a3 a4 => by
          have := part_srt hS h hL c c' a1 a2 a3
          simp only [Bool.not_eq_true'] at a4 ⊢
          exact hS.ntrans _ _ _ a4 this)
        generalize bsN (fun h => !lt d[A.length + L.length]! d[h]!) L.length A.length (A.length + L.length) = s at g1 g2 g3 g4 ⊢
        obtain ⟨L1, L2, rfl, l1, l2⟩ := split_len L (s - A.length) (by omega)
        have k := downN_list (A ++ L1) y L2 B d (by rw [h]; simp)
        have e1 : (A ++ L1).length = s := by simp [l1]; omega
        have e2 : s + L2.length = A.length + (L1 ++ L2).length := by simp; omega
        rw [e1, e2] at k
        rw [k]
        have m1 : ∀ r ∈ L1, lt y r = false := by
          intro r hr
          obtain ⟨c, a1, a2, rfl⟩ := part_mem (d := d) (A := A) (L := L1) (B := L2 ++ ([y] ++ B)) (by rw [h]; simp) hr
          have := g3 c a1 (by omega)
          simp only [Bool.not_eq_true'] at this
          rw [hy] at this
          exact this
        have m2 : ∀ r ∈ L2, lt y r = true := by
          intro r hr
          obtain ⟨c, a1, a2, rfl⟩ := part_mem (d := d) (A := A ++ L1) (L := L2) (B := [y] ++ B) (by rw [h]; simp) hr
          have := g4 c (by omega) (by simp at a2 l1 ⊢; omega)
          simp only [Bool.not_eq_false'] at this
          rw [hy] at this
          exact this
        have := ins_of_split y L1 L2 m1 m2
        have hm : mg lt (L1 ++ L2) [y] = L1 ++ y :: L2 := this
        rw [hm]
        simp
      · rw [if_neg c2]
        obtain ⟨a, ha⟩ : ∃ a, a = A.length := ⟨_, rfl⟩
        obtain ⟨m, hm⟩ : ∃ m, m = A.length + L.length := ⟨_, rfl⟩
        obtain ⟨b, hb⟩ : ∃ b, b = A.length + L.length + R.length := ⟨_, rfl⟩
        rw [← hb, ← hm, ← ha]
        dsimp only
        obtain ⟨mid, hmid⟩ : ∃ mid, mid = (a + b) / 2 := ⟨_, rfl⟩
        rw [← hmid]
        obtain ⟨s0, hs0⟩ : ∃ s0, s0 = if mid < m then mid + m - b else a := ⟨_, rfl⟩
        obtain ⟨r0, hr0⟩ : ∃ r0, r0 = if mid < m then mid else m := ⟨_, rfl⟩
        rw [← hs0, ← hr0]
        have hcase : (mid < m ∧ s0 = mid + m - b ∧ r0 = mid) ∨ (¬ mid < m ∧ s0 = a ∧ r0 = m) := by
          by_cases c : mid < m
          · exact .inl ⟨c, by rw [hs0, if_pos c], by rw [hr0, if_pos c]⟩
          · exact .inr ⟨c, by rw [hs0, if_neg c], by rw [hr0, if_neg c]⟩
        have u1 : s0 ≤ r0 := by omega
        have u2 : r0 ≤ mid := by omega
        have u3 : r0 ≤ m := by omega
        have u4 : a ≤ s0 := by omega
        have u5 : mid + m ≤ s0 + b := by omega
        clear hs0 hr0
        have sL := fun c c' (a1 : a ≤ c) (a2 : c ≤ c') (a3 : c' < m) => part_srt hS h hL c c' (by omega) a2 (by omega)
        have sR := fun c c' (a1 : m ≤ c) (a2 : c ≤ c') (a3 : c' < b) => part_srt hS hRd hR c c' (by omega) a2 (by omega)
        obtain ⟨g1, g2, g3, g4⟩ := bsN_spec (fun c => !lt d[mid + m - 1 - c]! d[c]!) (r0 - s0) s0 r0 (by omega) u1 (fun c c' a1 a2 a3 a4 => by
          simp only [Bool.not_eq_true'] at a4 ⊢
          have q1 := sL c c' (by omega) a2 (by omega)
          have q2 := sR (mid + m - 1 - c') (mid + m - 1 - c) (by omega) (by omega) (by omega)
          exact hS.ntrans _ _ _ q2 (hS.ntrans _ _ _ a4 q1))
        generalize bsN (fun c => !lt d[mid + m - 1 - c]! d[c]!) (r0 - s0) s0 r0 = s at g1 g2 g3 g4 ⊢
        obtain ⟨L1, L2, rfl, l1, l2⟩ := split_len L (s - a) (by omega)
        obtain ⟨R1, R2, rfl, l3, l4⟩ := split_len R (mid - s) (by omega)
        obtain ⟨e, he⟩ : ∃ e, e = mid + m - s := ⟨_, rfl⟩
        rw [← he]
        simp only [List.length_append] at l2 l4 hm hb h3 h1 h2 c1 c2
        obtain ⟨sL1, sL2, sL3⟩ := srt_sub rfl hL
        obtain ⟨sR1, sR2, sR3⟩ := srt_sub rfl hR
        have n1 : L1.length = s - a := l1
        have n2 : L2.length = m - s := by omega
        have n3 : R1.length = e - m := by omega
        have n4 : R2.length = b - e := by omega
        -- what is below what
        have f1 : ∀ r ∈ R1, ∀ l ∈ L2, lt r l = true := by
          intro r hr l hl
          obtain ⟨c, a1, a2, rfl⟩ := part_mem (d := d) (A := A ++ (L1 ++ L2)) (L := R1) (B := R2 ++ B) (by rw [h]; simp) hr
          obtain ⟨c', b1, b2, rfl⟩ := part_mem (d := d) (A := A ++ L1) (L := L2) (B := R1 ++ (R2 ++ B)) (by rw [h]; simp) hl
          simp only [List.length_append] at a1 a2 b1 b2
          have := g4 s (Nat.le_refl _) (by omega)
          simp only [Bool.not_eq_false'] at this
          cases hc : lt d[c]! d[c']! with
          | true => rfl
          | false =>
            have q1 := sL s c' (by omega) (by omega) (by omega)
            have q2 := sR c (mid + m - 1 - s) (by omega) (by omega) (by omega)
            have hno := hS.ntrans _ _ _ q2 (hS.ntrans _ _ _ hc q1)
            rw [this] at hno
            cases hno
        have f2 : ∀ r ∈ R2, ∀ l ∈ L1, lt r l = false := by
          intro r hr l hl
          obtain ⟨c, a1, a2, rfl⟩ := part_mem (d := d) (A := A ++ (L1 ++ L2) ++ R1) (L := R2) (B := B) (by rw [h]; simp) hr
          obtain ⟨c', b1, b2, rfl⟩ := part_mem (d := d) (A := A) (L := L1) (B := L2 ++ ((R1 ++ R2) ++ B)) (by rw [h]; simp) hl
          simp only [List.length_append] at a1 a2 b1 b2
          have := g3 (s - 1) (by omega) (by omega)
          simp only [Bool.not_eq_true'] at this
          have q1 := sL c' (s - 1) (by omega) (by omega) (by omega)
          have q2 := sR (mid + m - 1 - (s - 1)) c (by omega) (by omega) (by omega)
          exact hS.ntrans _ _ _ q2 (hS.ntrans _ _ _ this q1)
        have hm0 := mg_split L1 L2 R1 R2 f1 f2 (fun r hr l hl => sR3 l hl r hr)
        rw [hm0]
        -- behind the rotation
        obtain ⟨d1, hd1⟩ : ∃ d1, d1 = if s < m ∧ m < e then rotR m (e - s) (m - s) (e - m) d else d := ⟨_, rfl⟩
        rw [← hd1]
        have t1 : d1.toList = A ++ (L1 ++ (R1 ++ (L2 ++ (R2 ++ B)))) := by
          rw [hd1]
          by_cases c : s < m ∧ m < e
          · rw [if_pos c]
            have := rotR_list (e - s) L2 R1 (A ++ L1) (R2 ++ B) d (by omega) (by omega) (by omega) (by rw [h]; simp)
            have e1 : (A ++ L1).length + L2.length = m := by rw [List.length_append]; omega
            rw [e1, n2, n3] at this
            rw [this]; simp
          · rw [if_neg c, h]
            by_cases cc : s < m
            · have : R1 = [] := by rw [← List.length_eq_zero_iff]; omega
              subst this; simp
            · have : L2 = [] := by rw [← List.length_eq_zero_iff]; omega
              subst this; simp
        clear hd1
        obtain ⟨d2, hd2⟩ : ∃ d2, d2 = if a < s ∧ s < mid then symN lt f a s mid d1 else d1 := ⟨_, rfl⟩
        rw [← hd2]
        have t2 : d2.toList = A ++ (mg lt L1 R1 ++ (L2 ++ (R2 ++ B))) := by
          rw [hd2]
          by_cases c : a < s ∧ s < mid
          · rw [if_pos c]
            have := symN_list hS f A L1 R1 (L2 ++ (R2 ++ B)) d1 (by omega) (by omega) (by omega) sL1 sR1 t1
            have e1 : A.length + L1.length = s := by omega
            have e2 : s + R1.length = mid := by omega
            rw [e1, e2, ← ha] at this
            exact this
          · rw [if_neg c, t1]
            by_cases cc : a < s
            · have : R1 = [] := by rw [← List.length_eq_zero_iff]; omega
              subst this; simp [mg_nil]
            · have : L1 = [] := by rw [← List.length_eq_zero_iff]; omega
              subst this; rw [mg_nil_srt sR1]; simp
        clear hd2
        by_cases c : mid < e ∧ e < b
        · rw [if_pos c]
          have lm := length_mg (lt := lt) R1 L1
          have := symN_list hS f (A ++ mg lt L1 R1) L2 R2 B d2 (by omega) (by omega) (by omega) sL2 sR2 (by rw [t2]; simp)
          have e0 : (A ++ mg lt L1 R1).length = mid := by rw [List.length_append]; omega
          have e1 : mid + L2.length = e := by omega
          have e2 : e + R2.length = b := by omega
          rw [e0, e1, e2] at this
          rw [this]; simp
        · rw [if_neg c, t2]
          by_cases cc : mid < e
          · have : R2 = [] := by rw [← List.length_eq_zero_iff]; omega
            subst this; simp [mg_nil]
          · have : L2 = [] := by rw [← List.length_eq_zero_iff]; omega
            subst this; rw [mg_nil_srt sR2]; simp
end Go.AM

/- Sorting that keeps the order of equals, plainly: blocks, and all of it. -/
set_option linter.unusedVariables false
set_option linter.unusedSimpArgs false
namespace Go.AM
open Go.Sort
open Go.Proofs (insInner_go insInner_stop insOuter_go insOuter_stop)
variable {α : Type} [Inhabited α] {lt : α → α → Bool}
theorem insInner_list (hS : SWO lt) (A : List α) (x : α) : ∀ (L B : List α) (d : Array α), Srt lt L → d.toList = A ++ (L ++ x :: B) → (insInner lt A.length (A.length + L.length) d).toList = A ++ (ins lt x L ++ B) := by
  intro L
  induction L using snocI with
  | h0 =>
    intro B d hL h
    rw [insInner_stop lt _ _ _ (.inl (by simp)), h]
    rfl
  | h1 L y ih =>
    intro B d hL h
    obtain ⟨s1, s2, s3⟩ := srt_sub rfl hL
    have gx : d[A.length + (L ++ [y]).length]! = x := by
      have := arr_get (d := d) (A := A ++ (L ++ [y])) (x := x) (B := B) (by rw [h]; simp)
      rw [← this]; congr 1; simp
    have e1 : A.length + (L ++ [y]).length - 1 = A.length + L.length := by simp <;> omega
    have gy : d[A.length + L.length]! = y := by
      have := arr_get (d := d) (A := A ++ L) (x := y) (B := x :: B) (by rw [h]; simp)
      rw [← this]; congr 1; simp
    by_cases c : lt x y = true
    · rw [insInner_go lt _ _ _ (by simp) (by rw [e1, gx, gy]; exact c), e1]
      have h1 := swp_prev (d := d) (A := A ++ L) (x := y) (y := x) (B := B) (by rw [h]; simp)
      have e2 : A.length + (L ++ [y]).length = (A ++ L).length + 1 := by simp; omega
      have e3 : A.length + L.length = (A ++ L).length := by simp
      rw [e2, e3]
      rw [← e3, ih (y :: B) _ s1 (by rw [e3, h1]; simp), ins_left x L [y] (by simpa using c)]
      simp
    · have c' : lt x y = false := by simpa using c
      rw [insInner_stop lt _ _ _ (.inr (by rw [e1, gx, gy]; exact c')), h]
      have := ins_right (lt := lt) x (L ++ [y]) [] (fun z hz => by
        rcases List.mem_append.1 hz with hz | hz
        · exact hS.ntrans _ _ _ c' (s3 z hz y (by simp))
        · simp at hz; rw [hz]; exact c')
      rw [List.append_nil] at this
      rw [this]
      simp [ins]
theorem insOuter_list (hS : SWO lt) (A B : List α) : ∀ (R S : List α) (d : Array α), Srt lt S → d.toList = A ++ (S ++ (R ++ B)) → (insOuter lt A.length (A.length + S.length + R.length) (A.length + S.length) d).toList = A ++ (mg lt S R ++ B)
  | [], S, d, hS', h => by
    rw [insOuter_stop lt _ _ _ _ (by simp), h]
    simp [mg_nil]
  | x :: R, S, d, hS', h => by
    rw [insOuter_go lt _ _ _ _ (by simp)]
    have h1 := insInner_list hS A x S (R ++ B) d hS' (by rw [h]; simp)
    have := insOuter_list hS A B R (ins lt x S) _ (srt_ins hS x S hS') (by rw [h1])
    rw [length_ins] at this
    rw [mg_cons, ← this]
    congr 2
    simp
    omega
theorem insertionSort_list (hS : SWO lt) (A L B : List α) (d : Array α) (h : d.toList = A ++ (L ++ B)) : (Sort.insertionSort lt d A.length (A.length + L.length)).toList = A ++ (isrt lt L ++ B) := by
  unfold Sort.insertionSort
  cases L with
  | nil => rw [insOuter_stop lt _ _ _ _ (by simp), h]; rfl
  | cons x L =>
    have := insOuter_list hS A B L [x] d (by simp [Srt]) (by rw [h]; simp)
    have e : A.length + [x].length + L.length = A.length + (x :: L).length := by simp; omega
    rw [e] at this
    exact this
/-- Sorted in blocks of k. -/
def bsF (lt : α → α → Bool) (k : Nat) : Nat → List α → List α
  | 0, l => isrt lt l
  | f + 1, l => if k ≤ l.length then isrt lt (l.take k) ++ bsF lt k f (l.drop k) else isrt lt l
theorem bsF_fuel {β : Type} {lt : β → β → Bool} (k : Nat) (hk : 0 < k) : ∀ (f f' : Nat) (l : List β), l.length < f → l.length < f' → bsF lt k f l = bsF lt k f' l
  | 0, f', l, h, h' => by omega
  | f + 1, 0, l, h, h' => by omega
  | f + 1, f' + 1, l, h, h' => by
    unfold bsF
    split
    · rw [bsF_fuel k hk f f' _ (by simp; omega) (by simp; omega)]
    · rfl
def bsL (lt : α → α → Bool) (k : Nat) (l : List α) : List α := bsF lt k (l.length + 1) l
theorem bsL_cons {β : Type} {lt : β → β → Bool} (k : Nat) (hk : 0 < k) (X Y : List β) (h : X.length = k) : bsL lt k (X ++ Y) = isrt lt X ++ bsL lt k Y := by
  unfold bsL
  conv => lhs; unfold bsF
  rw [if_pos (by simp; omega)]
  have e1 : (X ++ Y).take k = X := by rw [← h]; simp
  have e2 : (X ++ Y).drop k = Y := by rw [← h]; simp
  rw [e1, e2, bsF_fuel k hk _ (Y.length + 1) Y (by simp; omega) (by omega)]
theorem bsL_short {β : Type} {lt : β → β → Bool} (k : Nat) (l : List β) (h : l.length < k) : bsL lt k l = isrt lt l := by
  unfold bsL bsF
  rw [if_neg (by omega)]
theorem bsL_le {β : Type} {lt : β → β → Bool} (k : Nat) (hk : 0 < k) (l : List β) (h : l.length ≤ k) : bsL lt k l = isrt lt l := by
  rcases Nat.lt_or_ge l.length k with c | c
  · exact bsL_short k l c
  · have := bsL_cons (lt := lt) k hk l [] (by omega)
    rw [List.append_nil] at this
    rw [this, bsL_short k [] (by simpa using hk)]
    simp [isrt, mg]
theorem insB_list (hS : SWO lt) (n : Nat) : ∀ (f : Nat) (A L : List α) (d : Array α), n = A.length + L.length → n + 1 ≤ A.length + f → d.toList = A ++ L → (insB lt n f A.length d).toList = A ++ bsL lt 20 L
  | 0, A, L, d, h1, h2, h => by omega
  | f + 1, A, L, d, h1, h2, h => by
    unfold insB
    by_cases c : A.length + 20 ≤ n
    · rw [if_pos c]
      obtain ⟨X, Y, rfl, l1, l2⟩ := split_len L 20 (by omega)
      have k1 := insertionSort_list hS A X Y d h
      rw [l1] at k1
      have e : A.length + 20 = (A ++ isrt lt X).length := by rw [List.length_append, length_isrt, l1]
      have := insB_list hS n f (A ++ isrt lt X) Y _ (by rw [← e, h1, List.length_append]; omega) (by rw [← e]; omega) (by rw [k1]; simp)
      rw [← e] at this
      rw [this, bsL_cons 20 (by omega) X Y l1]
      simp
    · rw [if_neg c]
      have k1 := insertionSort_list hS A L [] d (by rw [h]; simp)
      rw [← h1] at k1
      rw [k1, bsL_short 20 L (by omega)]
      simp
theorem mrgB_list (hS : SWO lt) (n k : Nat) (hk : 0 < k) : ∀ (f : Nat) (A L : List α) (d : Array α), n = A.length + L.length → L.length ≤ f → d.toList = A ++ bsL lt k L → (mrgB lt n k f A.length d).toList = A ++ bsL lt (2 * k) L
  | 0, A, L, d, h1, h2, h => by
    have : L = [] := by rw [← List.length_eq_zero_iff]; omega
    subst this
    unfold mrgB
    rw [h, bsL_le k hk [] (by simp), bsL_le (2 * k) (by omega) [] (by simp)]
  | f + 1, A, L, d, h1, h2, h => by
    unfold mrgB
    by_cases c : A.length + 2 * k ≤ n
    · rw [if_pos c]
      obtain ⟨X, Y, rfl, l1, l2⟩ := split_len L k (by omega)
      obtain ⟨Y, Z, rfl, l3, l4⟩ := split_len Y k (by rw [l2]; omega)
      rw [bsL_cons k hk X _ l1, bsL_cons k hk Y _ l3] at h
      simp only [List.length_append] at h1 h2
      have k1 := symN_list hS n A (isrt lt X) (isrt lt Y) (bsL lt k Z) d (by rw [length_isrt]; omega) (by rw [length_isrt]; omega) (by rw [length_isrt, length_isrt]; omega) (srt_isrt hS X) (srt_isrt hS Y) h
      rw [length_isrt, length_isrt, l1, l3, ← isrt_app hS] at k1
      have e0 : A.length + k + k = A.length + 2 * k := by omega
      rw [e0] at k1
      have e : A.length + 2 * k = (A ++ isrt lt (X ++ Y)).length := by rw [List.length_append, length_isrt, List.length_append]; omega
      have := mrgB_list hS n k hk f (A ++ isrt lt (X ++ Y)) Z _ (by rw [← e]; omega) (by omega) (by rw [k1]; simp)
      rw [← e] at this
      rw [this, ← List.append_assoc X Y Z, bsL_cons (2 * k) (by omega) (X ++ Y) Z (by simp; omega)]
      simp
    · rw [if_neg c, bsL_short (2 * k) L (by omega)]
      by_cases c2 : A.length + k < n
      · rw [if_pos c2]
        obtain ⟨X, Y, rfl, l1, l2⟩ := split_len L k (by omega)
        rw [bsL_cons k hk X _ l1] at h
        simp only [List.length_append] at h1 h2 c l2
        rw [bsL_short k Y (by omega)] at h
        have k1 := symN_list hS n A (isrt lt X) (isrt lt Y) [] d (by rw [length_isrt]; omega) (by rw [length_isrt]; omega) (by rw [length_isrt, length_isrt]; omega) (srt_isrt hS X) (srt_isrt hS Y) (by rw [h]; simp)
        rw [length_isrt, length_isrt, ← isrt_app hS] at k1
        have e0 : A.length + X.length + Y.length = n := by omega
        have e1 : A.length + X.length = A.length + k := by omega
        rw [e0, e1] at k1
        rw [k1]; simp
      · rw [if_neg c2, h, bsL_le k hk L (by omega)]
theorem mrgs_list (hS : SWO lt) (n : Nat) : ∀ (f k : Nat) (L : List α) (d : Array α), n = L.length → 0 < k → n ≤ k + f → d.toList = bsL lt k L → (mrgs lt n f k d).toList = isrt lt L
  | 0, k, L, d, h1, hk, h2, h => by
    unfold mrgs
    rw [h, bsL_le k hk L (by omega)]
  | f + 1, k, L, d, h1, hk, h2, h => by
    unfold mrgs
    by_cases c : k < n
    · rw [if_pos c]
      have := mrgB_list hS n k hk n [] L d (by simpa using h1) (by omega) (by rw [h]; simp)
      exact mrgs_list hS n f (2 * k) L _ h1 (by omega) (by omega) (by simpa using this)
    · rw [if_neg c, h, bsL_le k hk L (by omega)]
/-- slices.SortStableFunc sorts, and keeps the order of equals. -/
theorem stblN_list (hS : SWO lt) (d : Array α) : (stblN lt d).toList = isrt lt d.toList := by
  unfold stblN
  have hs : d.size = d.toList.length := by simp
  refine mrgs_list hS d.size d.size 20 d.toList _ hs (by omega) (by omega) ?_
  have := insB_list hS d.size (d.size + 1) [] d.toList d (by simp) (by simp) (by simp)
  simpa using this
end Go.AM

/- The contract of a sort in place of a row of structs, off its walk. -/
set_option linter.unusedVariables false
set_option linter.unusedSimpArgs false
namespace Go.AM
open Go.RowKit Go.Sort Go.Proofs Go.Shelf Go.Lib
theorem ltOf_cfV : ltOf cfV = lessV := by
  funext x y
  exact cfV_lt x y
theorem encV_rv (w : World) (ok : Nat → Prop) (r : Rv) (q : Nat) (x : IV) (h : (rvI r)[q]? = some x) : ∃ v, (encV r)[q]? = some v ∧ RV w ok x v := by
  match q, h with
  | 0, h => cases h; exact ⟨_, rfl, .int _ _⟩
  | 1, h => cases h; exact ⟨_, rfl, .int _ _⟩
  | 2, h => cases h; exact ⟨_, rfl, .str _⟩
  | 3, h => cases h; exact ⟨_, rfl, .flt _ _⟩
  | (k + 4), h => simp [rvI] at h
theorem rv_encV {w : World} {ok : Nat → Prop} (r : Rv) (q : Nat) (hq : q < 4) {v : Value} (x : IV) (h : (rvI r)[q]? = some x) (hv : RV w ok x v) : (encV r)[q]? = some v := by
  match q, hq, h with
  | 0, _, h => cases h; cases hv; rfl
  | 1, _, h => cases h; cases hv; rfl
  | 2, _, h => cases h; cases hv; rfl
  | 3, _, h => cases h; cases hv; rfl
theorem cells_read {w : World} {b : Nat} {c : Array Value} {T : TypeId} (h : w.heap[b]? = some (.cells c T (0, 0))) (k : Nat) : w.cell? ⟨b, k, none⟩ = c[k]? ∧ w.frozen? ⟨b, k, none⟩ = false := by
  constructor
  · simp [World.cell?, h]
  · simp [World.frozen?, h]
/-- What a world of the sort's is, told plainly. -/
theorem RW.told {w W : World} {b off : Nat} {d dk : Array Rv} (R : RowK encV 4 w b off d) (hs : dk.size = d.size) (h : RW encV 4 w b off dk W) {c : Array Value} {T : TypeId} (hb : w.heap[b]? = some (.cells c T (0, 0))) (hroom : off + d.size * 4 ≤ c.size) :
    W.os = w.os ∧ W.tape = w.tape ∧ W.output = w.output ∧ w.heap.size ≤ W.heap.size ∧ (∀ b', b' < w.heap.size → b' ≠ b → W.heap[b']? = w.heap[b']?) ∧
      ∃ c' : Array Value, W.heap[b]? = some (.cells c' T (0, 0)) ∧ c'.size = c.size ∧ ∀ i q, i < dk.size → q < 4 → c'[off + i * 4 + q]? = (encV dk[i]!)[q]? := by
  have hH := h.holds R hs
  have hload : ∀ i q, i < dk.size → q < 4 → W.cell? ⟨b, off + i * 4 + q, none⟩ = (encV dk[i]!)[q]? := by
    intro i q hi hq
    have h1 := (HoldsK.cell hH hi hq).1
    rw [h1]
    match q, hq with
    | 0, _ => rfl
    | 1, _ => rfl
    | 2, _ => rfl
    | 3, _ => rfl
  have hbw : b < w.heap.size := (Array.getElem?_eq_some_iff.1 hb).1
  obtain ⟨d0, n, os, rfl⟩ := h
  unfold sortWorldK putRowK putRow at *
  have hsz : (mapBlock (Sort.ahead (redrawn w d0) n) b (putCells id off (flatK encV 4 dk))).heap.size = w.heap.size := by simp [mapBlock, Sort.ahead, redrawn]
  refine ⟨rfl, rfl, rfl, by rw [size_grow, hsz]; omega, fun b' hb' hne => ?_, putCells id off (flatK encV 4 dk) c, ?_, by simp [putCells], fun i q hi hq => ?_⟩
  · unfold Sort.grow
    simp only
    rw [Array.getElem?_append_left (by rw [hsz]; exact hb')]
    unfold mapBlock
    simp only [Array.getElem?_modify]
    rw [if_neg (fun e => hne e.symm)]
    rfl
  · unfold Sort.grow
    simp only
    rw [Array.getElem?_append_left (by rw [hsz]; exact hbw)]
    unfold mapBlock
    simp only [Array.getElem?_modify, if_true]
    show Option.map _ w.heap[b]? = _
    rw [hb]
    rfl
  · have h1 := hload i q hi hq
    rw [← h1]
    have h2 : (Sort.grow (mapBlock (Sort.ahead (redrawn w d0) n) b (putCells id off (flatK encV 4 dk))) os).heap[b]? = some (.cells (putCells id off (flatK encV 4 dk) c) T (0, 0)) := by
      unfold Sort.grow
      simp only
      rw [Array.getElem?_append_left (by rw [hsz]; exact hbw)]
      unfold mapBlock
      simp only [Array.getElem?_modify, if_true]
      show Option.map _ w.heap[b]? = _
      rw [hb]
      rfl
    exact (cells_read h2 _).1.symm
theorem mapM_rvOf {es : List (List IV)} {l : List Rv} (h : es.mapM rvOf = some l) : es = l.map rvI := by
  obtain ⟨hl, hg⟩ := mapM_at h
  apply List.ext_getElem?
  intro i
  rw [List.getElem?_map]
  by_cases hi : i < es.length
  · obtain ⟨y, h1, h2⟩ := hg i es[i] (List.getElem?_eq_getElem hi)
    rw [h1, List.getElem?_eq_getElem hi, rvOf_some h2]
    rfl
  · rw [List.getElem?_eq_none (by omega), List.getElem?_eq_none (by omega)]
    rfl
theorem clo_nil_rv {w : World} {ok : Nat → Prop} {g : Nat} {v : Value} (h : RV w ok (.clo (.func g) []) v) : v = .func (.func g) #[] #[] := by
  cases h with
  | clo fn caps cv hlen hrel =>
    have : cv = #[] := by
      apply Array.eq_empty_of_size_eq_zero
      simpa using hlen.symm
    rw [this]
theorem sig_of_sort {P : Program} {g kg : FuncId} (H : ∀ (w0 : World) (blk off cap : Nat) (d : Array Rv), RowK encV 4 w0 blk off d → d.size < 2 ^ 40 → Calls P g #[.slice (some ⟨blk, off, none⟩) d.size cap, .func (.func kg) #[] #[]] w0 fun e w' => e = .returned (.tuple #[]) ∧ RW encV 4 w0 blk off (stblN (ltOf cfV) d) w')
    (H0 : ∀ (w : World) (A : Option Addr) (cap : Nat), Calls P g #[.slice A 0 cap, .func (.func kg) #[] #[]] w fun e w' => e = .returned (.tuple #[]) ∧ RowKit.Below w.heap.size w w') :
    SigOK P g ⟨.inpl, false, [], 4, fun l => match l with | [[x0], [x1]] => sortS kg x0 x1 | _ => none⟩ := by
  intro w ok ags x v0 pl args r hok hov hnok hargs hr
  dsimp only at hr
  split at hr
  · rename_i x0 x1 heq
    simp only [List.cons.injEq, and_true] at heq
    obtain ⟨rfl, rfl⟩ := heq
    have hS : ∃ es l, x = .lst es ∧ x1 = .clo (.func kg) [] ∧ es.length ≤ 2 ^ 32 ∧ es.mapM rvOf = some l ∧ r = [.lst ((isrt lessV l).map rvI)] := by
      unfold sortS at hr
      split at hr
      · split at hr
        · rename_i hc
          obtain ⟨l, h1, h2⟩ := Option.map_eq_some_iff.1 hr
          obtain ⟨rfl, hc⟩ := hc
          exact ⟨_, l, rfl, rfl, hc, h1, h2.symm⟩
        · cases hr
      · cases hr
    obtain ⟨es, l, rfl, rfl, hmax, hl, rfl⟩ := hS
    have hargs2 : args = [.func (.func kg) #[] #[]] := by
      obtain ⟨h1, h2⟩ := hargs
      match args, h1 with
      | [v], _ =>
        rcases h2 0 _ _ rfl rfl with ⟨y, e, h⟩ | ⟨h, _⟩
        · cases e; rw [clo_nil_rv h]
        · simp at h
    subst hargs2
    have hesl := mapM_rvOf hl
    obtain ⟨hsz, es', he', hlen, hall, hnone, hc⟩ := hov.arr
    cases he'
    obtain ⟨A, cap, rfl, hh, hcap⟩ := hov.hdr
    have hll : l.length = pl.len := by rw [← hlen, hesl]; simp
    by_cases h0 : pl.len = 0
    · rw [h0]
      refine (H0 w A cap).mono ?_
      rintro e w' ⟨rfl, hB⟩
      have hl0 : l = [] := List.length_eq_zero_iff.1 (by omega)
      have hsame : ∀ b, b < w.heap.size → w'.heap[b]? = w.heap[b]? := fun b hb => hB.block b hb
      refine ⟨_, rfl, hB.os, hB.tape, hB.output, hB.size, fun b c T hb => ⟨c, (hsame b (Array.getElem?_eq_some_iff.1 hb).1).trans hb, rfl⟩, fun b hb _ => hsame b hb, .inl ⟨(show 0 < 4 by decide), hsz, [], by subst hl0; rfl, by rw [h0]; rfl, fun e he => by simp at he, fun _ => rfl, fun b base hl => ?_⟩⟩
      obtain ⟨c, T, h1, h2, h3⟩ := hc b base hl
      exact ⟨c, T, (hsame b (Array.getElem?_eq_some_iff.1 h1).1).trans h1, by simp at h2 ⊢; omega, fun i j e x h => by simp at h⟩
    · rcases hh.2 with ⟨h1, _⟩ | ⟨b, base, hloc, rfl⟩
      · exact absurd h1 h0
      · obtain ⟨c, T, hb, hroom, hcell⟩ := hc b base hloc
        have hd : l.toArray.size = pl.len := by simpa using hll
        have hbw : b < w.heap.size := (Array.getElem?_eq_some_iff.1 hb).1
        have R : RowK encV 4 w b base l.toArray := by
          refine ⟨fun x => rfl, fun x v hv => ?_, fun j hj => ?_, hbw⟩
          · simp only [encV, List.mem_cons, List.not_mem_nil, or_false] at hv
            rcases hv with rfl | rfl | rfl | rfl <;> rfl
          · rw [size_flatK] at hj
            obtain ⟨g1, g2⟩ := cells_read hb (base + j)
            refine ⟨?_, g2⟩
            rw [g1, get_flatK _ _ _ _ hj]
            have hi : j / 4 < l.length := by have := hd; simp at hj this; omega
            have hq : j % 4 < 4 := Nat.mod_lt _ (by decide)
            have hget : l.toArray[j / 4]! = l[j / 4] := by simp [hi]
            rw [hget]
            have hes : es[j / 4]? = some (rvI l[j / 4]) := by rw [hesl, List.getElem?_map, List.getElem?_eq_getElem hi]; rfl
            obtain ⟨y, hy⟩ : ∃ y, (rvI l[j / 4])[j % 4]? = some y := ⟨_, List.getElem?_eq_getElem (l := rvI l[j / 4]) (show j % 4 < 4 from hq)⟩
            obtain ⟨v, k1, k2⟩ := hcell (j / 4) (j % 4) _ _ hes hy
            have hv := rv_encV l[j / 4] (j % 4) hq y hy k2
            have ej : base + j / 4 * 4 + j % 4 = base + j := by omega
            rw [ej] at k1
            rw [k1]
            have : (encV l[j / 4])[j % 4]! = v := by rw [List.getElem!_eq_getElem?_getD, hv]; rfl
            rw [this]; rfl
        have eA : base + 0 * pl.sz = base := by omega
        rw [eA, ← hd]
        refine (H w b base cap l.toArray R (by rw [hd, ← hlen]; exact Nat.lt_of_le_of_lt hmax (by decide))).mono ?_
        rintro e w' ⟨rfl, hR⟩
        have hss : (stblN (ltOf cfV) l.toArray).size = l.toArray.size := by
          have := congrArg List.length (stblN_list (lt := ltOf cfV) (by rw [ltOf_cfV]; exact swo_lessV) l.toArray)
          simpa [length_isrt] using this
        have hlist : (stblN (ltOf cfV) l.toArray).toList = isrt lessV l := by
          rw [stblN_list (lt := ltOf cfV) (by rw [ltOf_cfV]; exact swo_lessV), ltOf_cfV]
        obtain ⟨t1, t2, t3, t4, t5, c', t6, t7, t8⟩ := hR.told R hss hb (by rw [hd, ← hlen]; exact hroom)
        refine ⟨_, rfl, t1, t2, t3, t4, fun b' c1 T1 h1 => ?_, fun b' hb' hno => t5 b' hb' fun e => hno base (e ▸ hloc), .inl ⟨(show 0 < 4 by decide), hsz, (isrt lessV l).map rvI, rfl, by rw [List.length_map, length_isrt]; omega, fun e he => ?_, fun hn => (by rw [hn] at hloc; cases hloc), fun b' base' hl' => ?_⟩⟩
        · by_cases e : b' = b
          · subst e
            rw [hb] at h1; cases h1
            exact ⟨c', t6, t7⟩
          · exact ⟨c1, (t5 b' (Array.getElem?_eq_some_iff.1 h1).1 e).trans h1, rfl⟩
        · obtain ⟨x, _, rfl⟩ := List.mem_map.1 he; rfl
        · rw [hloc] at hl'; cases hl'
          refine ⟨c', T, t6, by rw [t7, List.length_map, length_isrt, hll, ← hlen]; exact hroom, fun i j e x h1 h2 => ?_⟩
          rw [List.getElem?_map] at h1
          obtain ⟨y, h3, rfl⟩ := Option.map_eq_some_iff.1 h1
          have hi : i < (isrt lessV l).length := (List.getElem?_eq_some_iff.1 h3).1
          have hj : j < 4 := by have := (List.getElem?_eq_some_iff.1 h2).1; simpa [rvI] using this
          have hget : (stblN (ltOf cfV) l.toArray)[i]! = y := by
            rw [getElem!_def, ← Array.getElem?_toList, hlist, h3]
          have h8 := t8 i j (by rw [hss, hd]; rw [length_isrt] at hi; omega) hj
          rw [hget] at h8
          obtain ⟨v, g1, g2⟩ := encV_rv w' ok y j x h2
          exact ⟨v, by rw [h8, g1], g2⟩
  · cases hr
theorem row_arg {w : World} {ok : Nat → Prop} (r : Rv) : ArgRel w ok (rvI r) (.agg (encV r).toArray) := by
  refine .inr ⟨(show 2 ≤ 4 by decide), _, rfl, rfl, fun i x u hx hu => ?_⟩
  obtain ⟨v, h1, h2⟩ := encV_rv w ok r i x hx
  have : (encV r).toArray[i]? = (encV r)[i]? := by simp
  rw [this, h1] at hu
  cases hu
  exact h2
/-- What is asked of the comparison, off a contract. -/
theorem cmp_of_sig {P : Program} {g : FuncId} {sc : Bool} {K : List (List IV) → Option (List IV)} (hK : SigOK P g ⟨.pure, sc, [1], 0, K⟩) (h : ∀ x y : Rv, K [rvI x, rvI y] = some [.int .i64 (cfV x y)]) : CmpB P g encV cfV := by
  intro x y W
  refine (hK.1 W (fun _ => False) W (fun _ => False) [rvI x, rvI y] [.agg (encV x).toArray, .agg (encV y).toArray] _ (Keeps.refl _ _) (fun b hb => hb.elim) ?_ (h x y)).mono ?_
  · refine ⟨rfl, fun i c v hc hv => ?_⟩
    match i, hc, hv with
    | 0, hc, hv => cases hc; cases hv; exact row_arg x
    | 1, hc, hv => cases hc; cases hv; exact row_arg y
    | (k + 2), hc, _ => simp at hc
  · rintro e W' ⟨v, rfl, hB, (⟨_, hv⟩ | ⟨h2, _⟩)⟩
    · have : RV W' (okNew W (fun _ => False) W') (.int .i64 (cfV x y)) v := hv
      cases this
      exact ⟨rfl, hB⟩
    · simp at h2
end Go.AM

/- Rows as a graph: who is above whom, by steps; what a row that is set changes. No program is named here. -/
import Derived.Test.YtmmacbkganjkbaaTr
import Derived.Test.YtmmacbkganjkbaaAe
set_option linter.unusedVariables false
set_option linter.unusedSimpArgs false
namespace Go.AM

theorem upR_key {l : List Rw} {x : Int} (h : (upR l x).isSome = true) : x ∈ l.map (·.ch) := by
  rw [upR_find] at h
  cases hf : findR l x with
  | none => rw [hf] at h; cases h
  | some r =>
    have h1 := List.mem_of_find?_eq_some hf
    have h2 := List.find?_some hf
    have : r.ch = x := by simpa [isC] using h2
    exact List.mem_map.2 ⟨r, h1, this⟩
/-- Above, in some steps. -/
def Abv (l : List Rw) (a b : Int) : Prop := ∃ k, nodeAt (upR l) (k + 1) b = some a
theorem aboveV_iff (l : List Rw) (a b : Int) : aboveV l a b = true ↔ Abv l a b := by
  unfold aboveV
  rw [contains_iff, mem_upto]
  constructor
  · rintro ⟨k, _, h⟩; exact ⟨k, h⟩
  · rintro ⟨k, h⟩
    obtain ⟨j, h1, h2⟩ := nodeAt_short (K := l.map (·.ch)) (fun x hx => upR_key hx) k h
    exact ⟨j, by simpa using h1, h2⟩
theorem aboveV_false (l : List Rw) (a b : Int) : aboveV l a b = false ↔ ¬ Abv l a b := by
  rw [← aboveV_iff]; simp
theorem find_append {l k : List Rw} {c : Int} : findR (l ++ k) c = (findR l c).or (findR k c) := List.find?_append
/-- What is found behind a row that was set. -/
theorem findR_set (l : List Rw) (r : Rw) (c : Int) : findR (setR l r) c = if c = r.ch then some r else findR l c := by
  unfold setR
  cases h : l.findIdx? (isC r.ch) with
  | some i =>
    obtain ⟨hi, hp, hn⟩ := List.findIdx?_eq_some_iff_getElem.1 h
    simp only
    have hl : l = l.take i ++ l[i] :: l.drop (i + 1) := by rw [← List.drop_eq_getElem_cons hi, List.take_append_drop]
    have hs : l.set i r = l.take i ++ r :: l.drop (i + 1) := by rw [List.set_eq_take_append_cons_drop]; simp [hi]
    have hpre : ∀ x ∈ l.take i, x.ch ≠ r.ch := by
      intro x hx
      obtain ⟨j, hj, rfl⟩ := List.mem_iff_getElem.1 hx
      simp only [List.length_take] at hj
      have := hn j (by omega)
      simpa [isC] using this
    have hli : l[i].ch = r.ch := by simpa [isC] using hp
    by_cases hc : c = r.ch
    · subst hc
      rw [if_pos rfl, hs, find_append]
      have : findR (l.take i) r.ch = none := List.find?_eq_none.2 fun x hx => by simp [isC, hpre x hx]
      rw [this]
      simp [findR, isC]
    · rw [if_neg hc, hs]
      conv => rhs; rw [hl]
      rw [find_append, find_append]
      congr 1
      have e1 : isC c r = false := by simp [isC]; exact fun e => hc e.symm
      have e2 : isC c l[i] = false := by simp [isC, hli]; exact fun e => hc e.symm
      show List.find? (isC c) (r :: _) = List.find? (isC c) (l[i] :: _)
      rw [List.find?_cons, List.find?_cons, e1, e2]
  | none =>
    simp only
    have hno : ∀ x ∈ l, x.ch ≠ r.ch := by
      rw [List.findIdx?_eq_none_iff] at h
      intro x hx
      simpa [isC] using h x hx
    rw [find_append, find_append]
    have hsplit : findR l c = (findR (l.take (atR l r.ch)) c).or (findR (l.drop (atR l r.ch)) c) := by
      rw [← find_append, List.take_append_drop]
    by_cases hc : c = r.ch
    · subst hc
      have : findR (l.take (atR l r.ch)) r.ch = none := List.find?_eq_none.2 fun x hx => by simp [isC, hno x (List.mem_of_mem_take hx)]
      rw [this]
      simp [findR, isC]
    · have e1 : isC c r = false := by simp [isC]; exact fun e => hc e.symm
      rw [if_neg hc, hsplit]
      simp [findR, List.find?_cons, e1]
theorem upR_set (l : List Rw) (r : Rw) (c : Int) : upR (setR l r) c = if c = r.ch then some r.par else upR l c := by
  rw [upR_find, upR_find, findR_set]
  split <;> rfl

theorem nodeAt_zero (f : Int → Option Int) (b : Int) : nodeAt f 0 b = some b := rfl
theorem nodeAt_one (f : Int → Option Int) (b : Int) : nodeAt f 1 b = f b := by
  have := nodeAt_add (f := f) 0 (k := 1) (b := b)
  simp only [nodeAt]
  cases f b <;> rfl
theorem nodeAt_succ (f : Int → Option Int) (k : Nat) (b : Int) : nodeAt f (k + 1) b = (f b).bind (nodeAt f k) := by
  rw [Nat.add_comm, nodeAt_add, nodeAt_one]
theorem nodeAt_snoc (f : Int → Option Int) (k : Nat) (b : Int) : nodeAt f (k + 1) b = (nodeAt f k b).bind f := by
  rw [nodeAt_add]
  congr 1
  funext x
  exact nodeAt_one f x
/-- A way that does not come to a node is the same where only that node's row is another. -/
theorem nodeAt_same {f g : Int → Option Int} {c : Int} (h : ∀ x, x ≠ c → f x = g x) {b : Int} : ∀ k, (∀ j, j < k → nodeAt f j b ≠ some c) → nodeAt f k b = nodeAt g k b
  | 0, _ => rfl
  | k + 1, hk => by
    rw [nodeAt_snoc, nodeAt_snoc, nodeAt_same h k fun j hj => hk j (by omega)]
    cases hg : nodeAt g k b with
    | none => rfl
    | some x =>
      have : nodeAt f k b = some x := by rw [nodeAt_same h k fun j hj => hk j (by omega)]; exact hg
      have hx : x ≠ c := fun e => hk k (by omega) (by rw [this, e])
      exact h x hx
end Go.AM
/- Moves that are done, plainly: all of them, all nodes; FoldDoes, FoldAll, FoldParts, FoldOthers. -/
set_option linter.unusedVariables false
set_option linter.unusedSimpArgs false
namespace Go.AM

/-! ### Lists of whole numbers -/
end Go.AM

/- tree.May, plainly; a move that is done leaves a tree a tree. -/
set_option linter.unusedVariables false
set_option linter.unusedSimpArgs false
namespace Go.AM

theorem mapM_oneB {O : List (List IV) → Option (List IV)} (h : ∀ r : Rw, O [eRw r] = some [.bool (oneR r)]) : ∀ l : List Rw, (l.map eRw).mapM (oneB O) = some (l.map oneR)
  | [] => rfl
  | r :: l => by
    have h1 : oneB O (eRw r) = some (oneR r) := by
      unfold oneB
      rw [h r]
    rw [List.map_cons, List.mapM_cons, h1, mapM_oneB h l]
    rfl
theorem risesQ_R (l : List Rw) : risesQ (fun i => (l.map oneR).getD i false) (l.map prR) 0 = (l.all oneR && adjB risR l) := by
  rw [Bool.eq_iff_iff, risesQ_iff, Bool.and_eq_true, adjB_iff]
  constructor
  · intro h
    refine ⟨List.all_eq_true.2 fun r hr => ?_, fun i x y hx hy => ?_⟩
    · obtain ⟨i, hi, rfl⟩ := List.mem_iff_getElem.1 hr
      have := (h i (by simpa using hi)).1
      simpa [List.getD_eq_getElem?_getD, hi] using this
    · have hi := (List.getElem?_eq_some_iff.1 hy).1
      have := (h (i + 1) (by simpa using hi)).2 (prR x) (prR y) (by omega) (by simp [hx]) (by simp [hy])
      simpa [risR, prR] using this
  · rintro ⟨h1, h2⟩ j hj
    have hj' : j < l.length := by simpa using hj
    refine ⟨?_, fun p q h0 hp hq => ?_⟩
    · have := List.all_eq_true.1 h1 l[j] (List.getElem_mem hj')
      simpa [List.getD_eq_getElem?_getD, hj'] using this
    · rw [List.getElem?_map] at hp hq
      cases hx : l[j - 1]? with
      | none => rw [hx] at hp; cases hp
      | some x =>
        cases hy : l[j]? with
        | none => rw [hy] at hq; cases hq
        | some y =>
          rw [hx] at hp; rw [hy] at hq
          cases hp; cases hq
          have := h2 (j - 1) x y hx (by rw [show j - 1 + 1 = j by omega]; exact hy)
          simpa [risR, prR] using this
theorem tree_May_eq {l : List Rw} (hl : l.length < 2 ^ 16) (ho : OKl l) : tree_May_s (eRws l) = some [.bool (mayR l)] := by
  show mayS _ (eRws l) = _
  unfold mayS
  simp only [List.length_map]
  rw [if_pos (by omega), mapM_rowI ho, mapM_oneB fun r => tree_One_eq r.ch r.par r.nm _]
  simp only [Option.bind_some, Option.map_some]
  congr 3
  unfold mayQ mayR
  rw [risesQ_R, List.length_map]
  congr 2
  rw [Bool.eq_iff_iff, List.all_eq_true, Bool.not_eq_true', List.any_eq_false]
  constructor
  · intro h r hr
    have h1 : r.ch ∈ ksof (l.map prR) := (mem_ksof _ _).2 (by
      unfold lkp
      rw [Option.isSome_map, List.find?_isSome]
      exact ⟨prR r, List.mem_map.2 ⟨r, hr, rfl⟩, by simp [prR]⟩)
    have := h _ h1
    rw [upto_wide] at this
    simpa using this
  · intro h c hc
    rw [upto_wide]
    have h2 := (mem_ksof _ _).1 hc
    unfold lkp at h2
    rw [Option.isSome_map, List.find?_isSome] at h2
    obtain ⟨p, hp, he⟩ := h2
    obtain ⟨r, hr, rfl⟩ := List.mem_map.1 hp
    have e : r.ch = c := by simpa [prR] using he
    have := h r hr
    rw [e] at this
    simpa using this

/-! ### A tree stays a tree -/
theorem least {P : Nat → Prop} : ∀ n, P n → ∃ j, P j ∧ ∀ i, i < j → ¬ P i := by
  intro n
  induction n using Nat.strongRecOn with
  | _ n ih =>
    intro h
    by_cases hh : ∃ i, i < n ∧ P i
    · obtain ⟨i, hi, hp⟩ := hh; exact ih i hi hp
    · exact ⟨n, h, fun i hi hp => hh ⟨i, hi, hp⟩⟩
theorem acyc_set {l : List Rw} {r : Rw} (h : ∀ c, ¬ Abv l c c) (h1 : r.ch ≠ r.par) (h2 : ¬ Abv l r.ch r.par) : ∀ c, ¬ Abv (setR l r) c c := by
  rintro c ⟨k, hk⟩
  have hf : ∀ x, x ≠ r.ch → upR (setR l r) x = upR l x := fun x hx => by rw [upR_set, if_neg hx]
  by_cases hv : ∃ j, j ≤ k ∧ nodeAt (upR (setR l r)) j c = some r.ch
  · obtain ⟨j, hj, hjc⟩ := hv
    have hrot : nodeAt (upR (setR l r)) (k + 1) r.ch = some r.ch := by
      have e1 : nodeAt (upR (setR l r)) (j + (k + 1)) c = nodeAt (upR (setR l r)) (k + 1) r.ch := by rw [nodeAt_add, hjc]; rfl
      have e2 : nodeAt (upR (setR l r)) (j + (k + 1)) c = some r.ch := by rw [Nat.add_comm, nodeAt_add, hk]; exact hjc
      rw [← e1, e2]
    rw [nodeAt_succ, upR_set, if_pos rfl] at hrot
    obtain ⟨i, hi, hmin⟩ := least (P := fun i => nodeAt (upR (setR l r)) i r.par = some r.ch) k hrot
    rw [nodeAt_same (c := r.ch) hf i hmin] at hi
    cases i with
    | zero => rw [nodeAt_zero] at hi; exact h1 (Option.some.inj hi).symm
    | succ i => exact h2 ⟨i, hi⟩
  · rw [nodeAt_same (c := r.ch) hf (k + 1) fun j hj hh => hv ⟨j, by omega, hh⟩] at hk
    exact h c ⟨k, hk⟩
theorem mem_setR {l : List Rw} {r x : Rw} (h : x ∈ setR l r) : x ∈ l ∨ x = r := by
  unfold setR at h
  split at h
  · exact List.mem_or_eq_of_mem_set h
  · simp only [List.mem_append, List.mem_singleton] at h
    rcases h with (h | h) | h
    · exact .inl (List.mem_of_mem_take h)
    · exact .inr h
    · exact .inl (List.mem_of_mem_drop h)
theorem rises_adj : ∀ {l : List Rw}, adjB risR l = true ↔ Rises (l.map (·.ch))
  | [] => by simp [adjB, Rises]
  | [x] => by simp [adjB, Rises]
  | x :: y :: l => by
    have ih := rises_adj (l := y :: l)
    simp only [adjB, Bool.and_eq_true]
    rw [ih]
    simp only [List.map_cons, Rises, List.pairwise_cons, risR, decide_eq_true_eq]
    constructor
    · rintro ⟨h1, h2, h3⟩
      refine ⟨fun a ha => ?_, h2, h3⟩
      rcases List.mem_cons.1 ha with rfl | ha
      · exact h1
      · exact Int.lt_trans h1 (h2 a ha)
    · rintro ⟨h1, h2, h3⟩
      exact ⟨h1 _ List.mem_cons_self, h2, h3⟩
theorem findIdx_same {α : Type} {p q : α → Bool} : ∀ {l : List α}, (∀ x ∈ l, p x = q x) → l.findIdx? p = l.findIdx? q
  | [], _ => rfl
  | x :: l, h => by
    rw [List.findIdx?_cons, List.findIdx?_cons, h x List.mem_cons_self, findIdx_same fun y hy => h y (List.mem_cons_of_mem _ hy)]
theorem setR_keys {l : List Rw} (h : Rises (l.map (·.ch))) (r : Rw) : (setR l r).map (·.ch) = putI (l.map (·.ch)) r.ch := by
  have hp := putI_spec h r.ch
  unfold setR
  cases hi : l.findIdx? (isC r.ch) with
  | some i =>
    obtain ⟨hlt, hc, _⟩ := List.findIdx?_eq_some_iff_getElem.1 hi
    have hch : l[i].ch = r.ch := by simpa [isC] using hc
    simp only
    have e : (l.set i r).map (·.ch) = l.map (·.ch) := by
      rw [List.map_set]
      apply List.ext_getElem?
      intro j
      rw [List.getElem?_set]
      split
      · rename_i hj; subst hj; simp [hlt, hch]
      · rfl
    rw [e]
    refine rises_ext h hp.1 fun x => ?_
    rw [hp.2]
    constructor
    · exact .inl
    · rintro (h | rfl)
      · exact h
      · exact List.mem_map.2 ⟨l[i], List.getElem_mem hlt, hch⟩
  | none =>
    have hno : ∀ x ∈ l, x.ch ≠ r.ch := by
      rw [List.findIdx?_eq_none_iff] at hi
      intro x hx; simpa [isC] using hi x hx
    have ek : atI (l.map (·.ch)) r.ch = atR l r.ch := by
      unfold atI atR
      rw [List.findIdx?_map, List.length_map]
      congr 1
      refine findIdx_same fun x hx => ?_
      have := hno x hx
      simp only [Function.comp]
      rw [Bool.eq_iff_iff]
      simp
      omega
    unfold putI
    rw [ek, if_neg]
    · simp [List.map_take, List.map_drop]
    · intro hh
      have := List.mem_of_getElem? hh
      obtain ⟨x, hx, he⟩ := List.mem_map.1 this
      exact hno x hx he
theorem mayR_parts {l : List Rw} (h : mayR l = true) : l.length ≤ 2000 ∧ (∀ r ∈ l, oneR r = true) ∧ Rises (l.map (·.ch)) ∧ ∀ c, ¬ Abv l c c := by
  unfold mayR at h
  simp only [Bool.and_eq_true, decide_eq_true_eq, List.all_eq_true, Bool.not_eq_true', List.any_eq_false] at h
  obtain ⟨h1, ⟨h2, h3⟩, h4⟩ := h
  refine ⟨h1, h2, rises_adj.1 h3, fun c hc => ?_⟩
  have hk : c ∈ l.map (·.ch) := by
    obtain ⟨k, hk⟩ := hc
    apply upR_key
    rw [nodeAt_succ] at hk
    cases hu : upR l c with
    | none => rw [hu] at hk; cases hk
    | some y => rfl
  obtain ⟨r, hr, rfl⟩ := List.mem_map.1 hk
  exact h4 r hr ((aboveV_iff _ _ _).2 hc)
theorem mayR_of {l : List Rw} (h1 : l.length ≤ 2000) (h2 : ∀ r ∈ l, oneR r = true) (h3 : Rises (l.map (·.ch))) (h4 : ∀ c, ¬ Abv l c c) : mayR l = true := by
  unfold mayR
  simp only [Bool.and_eq_true, decide_eq_true_eq, List.all_eq_true, Bool.not_eq_true', List.any_eq_false]
  exact ⟨h1, ⟨h2, rises_adj.2 h3⟩, fun r hr => by rw [aboveV_iff]; exact h4 _⟩
theorem mayR_do {l : List Rw} {m : Mv} (h : mayR l = true) (hm : oneV m = true) (hb : barV l m = false) (hl : l.length + 1 ≤ 2000) : mayR (doV l m) = true := by
  obtain ⟨h1, h2, h3, h4⟩ := mayR_parts h
  unfold barV at hb
  simp only [Bool.or_eq_false_iff, decide_eq_false_iff_not] at hb
  have hlen := doV_length l m
  have hd : doV l m = setR l (rowOf m) := by
    unfold doV
    rw [if_neg]
    unfold barV
    simp [hb]
  refine mayR_of (by omega) (fun r hr => ?_) ?_ ?_
  · rw [hd] at hr
    rcases mem_setR hr with hr | rfl
    · exact h2 r hr
    · unfold oneV at hm
      simp only [Bool.and_eq_true] at hm
      exact hm.2
  · rw [hd, setR_keys h3]
    exact (putI_spec h3 _).1
  · rw [hd]
    exact acyc_set h4 (fun e => hb.1.2 e) ((aboveV_false _ _ _).1 hb.2)
end Go.AM

/- FoldParts, FoldOthers, plainly. -/
set_option linter.unusedVariables false
set_option linter.unusedSimpArgs false
namespace Go.AM

theorem two_inv {cs : List IV} (h : Typed [.int .i64, .int .i64] cs) : ∃ v w : Int, cs = [.int .i64 v, .int .i64 w] ∧ in64 v ∧ in64 w := by
  obtain ⟨hl, hs⟩ := h
  match cs, hl with
  | [c0, c1], _ =>
    obtain ⟨a, rfl, ha⟩ := i64_inv (hs 0 _ c0 rfl rfl)
    obtain ⟨b, rfl, hb⟩ := i64_inv (hs 1 _ c1 rfl rfl)
    exact ⟨a, b, rfl, ha, hb⟩
theorem doV_bar {l : List Rw} {m : Mv} (h : barV l m = true) : doV l m = l := by unfold doV; rw [if_pos h]
end Go.AM

/- FoldTree, plainly. -/
set_option linter.unusedVariables false
set_option linter.unusedSimpArgs false
namespace Go.AM

theorem take_snocM {α : Type} {l : List α} {k : Nat} {x : α} (h : l[k]? = some x) : l.take (k + 1) = l.take k ++ [x] := by
  rw [List.take_add_one, h]; rfl

end Go.AM

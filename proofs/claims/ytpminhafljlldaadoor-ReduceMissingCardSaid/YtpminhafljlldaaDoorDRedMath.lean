/- The document's kept and reached ones, round by round, are the greatest whole choice and the least closed one: plain. -/
import Derived.Test.YtpminhafljlldaaDoorRedMath
import Derived.Test.YtpminhafljlldaaDoorQMath
namespace Go.Proofs.YtpminhafljlldaaDoor.Q
open R (On Sub Whole Kept Rch Reached RCl)

/-- one that is on matches -/
def dhas (l : List Rc) (on : List Bool) (s : Sp) : Bool := (List.range l.length).any fun i => (on[i]? == some true) && ((l[i]?).map (mt s) == some true)
theorem dhas_iff {l : List Rc} {on : List Bool} {s : Sp} : dhas l on s = true ↔ R.Has mt l on s := by
  unfold dhas R.Has
  rw [List.any_eq_true]
  constructor
  · rintro ⟨i, h1, h2⟩
    rw [Bool.and_eq_true, beq_iff_eq, beq_iff_eq, Option.map_eq_some_iff] at h2
    obtain ⟨h2, q, h3, h4⟩ := h2
    exact ⟨i, q, h2, h3, h4⟩
  · rintro ⟨i, q, h1, h2, h3⟩
    refine ⟨i, by simp; exact (List.getElem?_eq_some_iff.1 h2).1, ?_⟩
    unfold R.On at h1
    rw [h1, h2]; simp [h3]
def dneeds (l : List Rc) (on : List Bool) (r : Rc) : Bool := r.deps.all fun s => dhas l on s
/-- what the next round keeps at a place -/
def keepAt (l : List Rc) (now : List Bool) (i : Nat) : Bool := (now[i]? == some true) && (match l[i]? with | some r => dneeds l now r | none => false)
def keepStep (l : List Rc) (now : List Bool) : List Bool := (List.range l.length).map (keepAt l now)
theorem keepStep_len (l : List Rc) (now : List Bool) : (keepStep l now).length = l.length := by simp [keepStep]
theorem keepStep_on {l : List Rc} {now : List Bool} {i : Nat} : On (keepStep l now) i ↔ On now i ∧ ∃ r, l[i]? = some r ∧ dneeds l now r = true := by
  unfold R.On keepStep
  rcases Nat.lt_or_ge i l.length with h | h
  · rw [List.getElem?_map, List.getElem?_range h]
    simp only [Option.map_some, Option.some.injEq]
    unfold keepAt
    rw [List.getElem?_eq_getElem h]
    simp
  · rw [List.getElem?_eq_none (by simpa using h)]
    constructor
    · intro h; cases h
    · rintro ⟨_, r, h1, _⟩; rw [List.getElem?_eq_none h] at h1; cases h1
def keepIter (l : List Rc) (on : List Bool) : Nat → List Bool
  | 0 => on
  | n + 1 => keepStep l (keepIter l on n)
theorem keepIter_len {l : List Rc} {on : List Bool} (h : on.length = l.length) : ∀ n, (keepIter l on n).length = l.length
  | 0 => h
  | _ + 1 => keepStep_len _ _
theorem keepIter_sub {l : List Rc} {on : List Bool} : ∀ n, Sub (keepIter l on (n + 1)) (keepIter l on n) := fun _ _ hi => (keepStep_on.1 hi).1
theorem keepIter_on {l : List Rc} {on : List Bool} : ∀ n, Sub (keepIter l on n) on
  | 0 => Sub.refl _
  | n + 1 => (keepIter_sub n).trans (keepIter_on n)
theorem keepIter_most {l : List Rc} {on k' : List Bool} (h1 : Sub k' on) (h2 : Whole Rc.deps mt l k') (hl : k'.length ≤ l.length) : ∀ n, Sub k' (keepIter l on n)
  | 0 => h1
  | n + 1 => fun i hi => by
    have ih := keepIter_most h1 h2 hl n
    have hlt : i < l.length := Nat.lt_of_lt_of_le hi.lt hl
    refine keepStep_on.2 ⟨ih i hi, l[i], List.getElem?_eq_getElem hlt, ?_⟩
    unfold dneeds
    rw [List.all_eq_true]
    intro s hs
    obtain ⟨j, q, h3, h4, h5⟩ := h2 i _ hi (List.getElem?_eq_getElem hlt) s hs
    exact dhas_iff.2 ⟨j, q, ih j h3, h4, h5⟩
theorem count_lt : ∀ {a b : List Bool}, a.length = b.length → Sub a b → a ≠ b → R.count a < R.count b
  | [], [], _, _, h => absurd rfl h
  | [], _ :: _, h, _, _ => by simp at h
  | _ :: _, [], h, _, _ => by simp at h
  | x :: a, y :: b, h, hs, hne => by
    have hs' : Sub a b := fun i hi => by have := hs (i + 1) (by simpa [R.On] using hi); simpa [R.On] using this
    have hl : a.length = b.length := by simpa using h
    have h0 := hs 0
    simp only [R.On, List.getElem?_cons_zero, Option.some.injEq] at h0
    have hle := R.count_le hl hs'
    unfold R.count at *
    rw [List.countP_cons, List.countP_cons]
    by_cases e : a = b
    · subst e
      cases x <;> cases y <;> simp_all
    · have := count_lt hl hs' e
      unfold R.count at this
      cases x
      · simp; omega
      · rw [h0 rfl]; simp; omega
theorem count_bd (a : List Bool) : R.count a ≤ a.length := List.countP_le_length
/-- a falling row of choices stands still at last -/
theorem falls {f : Nat → List Bool} {n : Nat} (hl : ∀ k, (f k).length = n) (hs : ∀ k, Sub (f (k + 1)) (f k)) (hf : ∀ k, f (k + 1) = f k → ∀ j, k ≤ j → f j = f k) : f (n + 1) = f n := by
  have key : ∀ k, f (k + 1) = f k ∨ R.count (f (k + 1)) + (k + 1) ≤ n := by
    intro k
    induction k with
    | zero =>
      by_cases e : f 1 = f 0
      · exact .inl e
      · have : R.count (f (0 + 1)) < R.count (f 0) := count_lt ((hl 1).trans (hl 0).symm) (hs 0) e
        have := count_bd (f 0)
        rw [hl] at this
        right; omega
    | succ k ih =>
      rcases ih with e | ih
      · left
        rw [hf k e (k + 2) (by omega), hf k e (k + 1) (by omega)]
      · by_cases e : f (k + 2) = f (k + 1)
        · exact .inl e
        · have : R.count (f (k + 1 + 1)) < R.count (f (k + 1)) := count_lt ((hl (k + 2)).trans (hl (k + 1)).symm) (hs (k + 1)) e
          right; omega
  rcases key n with h | h
  · exact h
  · omega
theorem keepIter_still {l : List Rc} {on : List Bool} {k : Nat} (h : keepIter l on (k + 1) = keepIter l on k) : ∀ j, k ≤ j → keepIter l on j = keepIter l on k := by
  intro j hj
  induction j with
  | zero => obtain rfl : k = 0 := by omega
            rfl
  | succ j ih =>
    by_cases e : k = j + 1
    · subst e; rfl
    · show keepStep l (keepIter l on j) = _
      rw [ih (by omega)]; exact h
/-- what the document keeps is what is kept -/
theorem keep_kept {l : List Rc} {on : List Bool} (h : on.length = l.length) : Kept Rc.deps mt l on (keepIter l on (l.length + 1)) := by
  have hfix := falls (f := keepIter l on) (keepIter_len h) keepIter_sub (fun k e => keepIter_still e)
  refine ⟨keepIter_len h _, keepIter_on _, fun i r hi hr s hs => ?_, fun k' h1 h2 i hi => ?_⟩
  · obtain ⟨_, r', h1, h2⟩ := keepStep_on.1 hi
    rw [hr] at h1; cases h1
    unfold dneeds at h2
    rw [List.all_eq_true] at h2
    rw [hfix]
    exact dhas_iff.1 (h2 s hs)
  · by_cases hl : k'.length ≤ l.length
    · exact keepIter_most h1 h2 hl _ i hi
    · -- a longer one: cut it
      have hi' := h1 i hi
      have hlt : i < l.length := h ▸ hi'.lt
      have ht : ∀ j, On (k'.take l.length) j ↔ On k' j ∧ j < l.length := by
        intro j; unfold R.On
        rw [List.getElem?_take]
        split <;> simp [*]
      refine keepIter_most (k' := k'.take l.length) (fun j hj => h1 j ((ht j).1 hj).1) (fun j r hj hr s hs => ?_) (by simp; omega) _ i ((ht i).2 ⟨hi, hlt⟩)
      obtain ⟨x, q, h3, h4, h5⟩ := h2 j r ((ht j).1 hj).1 hr s hs
      exact ⟨x, q, (ht x).2 ⟨h3, (List.getElem?_eq_some_iff.1 h4).1⟩, h4, h5⟩

/-- does a record that is told need the one at a place -/
def dneeded (l : List Rc) (now : List Bool) (r : Rc) : Bool := (List.range l.length).any fun k => (now[k]? == some true) && (match l[k]? with | some q => q.deps.any fun s => mt s r | none => false)
/-- what a round of the document does at a place -/
def reachAt (l : List Rc) (on : List Bool) (roots : List Sp) (now : List Bool) (i : Nat) : List Bool :=
  match l[i]?, on[i]?, now[i]? with
  | some r, some true, some x => now.set i (x || (roots.any fun s => mt s r) || dneeded l now r)
  | _, _, _ => now
def reachUpto (l : List Rc) (on : List Bool) (roots : List Sp) (now : List Bool) : Nat → List Bool
  | 0 => now
  | i + 1 => reachAt l on roots (reachUpto l on roots now i) i
def reachIter (l : List Rc) (on : List Bool) (roots : List Sp) : Nat → List Bool
  | 0 => List.replicate l.length false
  | n + 1 => reachUpto l on roots (reachIter l on roots n) l.length
theorem reachAt_len (l : List Rc) (on : List Bool) (roots : List Sp) (now : List Bool) (i : Nat) : (reachAt l on roots now i).length = now.length := by
  unfold reachAt; split <;> simp
theorem reachUpto_len (l : List Rc) (on : List Bool) (roots : List Sp) (now : List Bool) : ∀ n, (reachUpto l on roots now n).length = now.length
  | 0 => rfl
  | n + 1 => (reachAt_len ..).trans (reachUpto_len l on roots now n)
theorem reachIter_len (l : List Rc) (on : List Bool) (roots : List Sp) : ∀ n, (reachIter l on roots n).length = l.length
  | 0 => by simp [reachIter]
  | n + 1 => (reachUpto_len ..).trans (reachIter_len l on roots n)
theorem dneeded_iff {l : List Rc} {now : List Bool} {r : Rc} : dneeded l now r = true ↔ ∃ k p, On now k ∧ l[k]? = some p ∧ ∃ s ∈ p.deps, mt s r = true := by
  unfold dneeded
  rw [List.any_eq_true]
  constructor
  · rintro ⟨k, h1, h2⟩
    rw [Bool.and_eq_true, beq_iff_eq] at h2
    obtain ⟨h2, h3⟩ := h2
    split at h3
    · rename_i p hp
      obtain ⟨s, h4, h5⟩ := List.any_eq_true.1 h3
      exact ⟨k, p, h2, hp, s, h4, h5⟩
    · cases h3
  · rintro ⟨k, p, h1, h2, s, h3, h4⟩
    refine ⟨k, by simp; exact (List.getElem?_eq_some_iff.1 h2).1, ?_⟩
    unfold R.On at h1
    rw [h1, h2]
    simp only [beq_self_eq_true, Bool.true_and]
    exact List.any_eq_true.2 ⟨s, h3, h4⟩
theorem on_set {a : List Bool} {i j : Nat} {x : Bool} (hi : i < a.length) : On (a.set i x) j ↔ (if i = j then x = true else On a j) := by
  unfold R.On; rw [List.getElem?_set]; split
  · simp
  · rfl
theorem reachAt_up {l : List Rc} {on : List Bool} {roots : List Sp} {now : List Bool} {i : Nat} : Sub now (reachAt l on roots now i) := fun j hj => by
  unfold reachAt
  split
  · rename_i r x _ _ hx
    rw [on_set (List.getElem?_eq_some_iff.1 hx).1]
    split
    · rename_i e; subst e
      unfold R.On at hj
      rw [hx] at hj; cases hj; rfl
    · exact hj
  · exact hj
theorem reachUpto_up {l : List Rc} {on : List Bool} {roots : List Sp} {now : List Bool} : ∀ n, Sub now (reachUpto l on roots now n)
  | 0 => Sub.refl _
  | n + 1 => (reachUpto_up n).trans reachAt_up
theorem reachUpto_le {l : List Rc} {on : List Bool} {roots : List Sp} {now : List Bool} {m : Nat} : ∀ n, m ≤ n → Sub (reachUpto l on roots now m) (reachUpto l on roots now n)
  | 0, h => by obtain rfl : m = 0 := by omega
               exact Sub.refl _
  | n + 1, h => by
    by_cases e : m = n + 1
    · subst e; exact Sub.refl _
    · exact (reachUpto_le n (by omega)).trans reachAt_up
theorem reachAt_sound {l : List Rc} {on : List Bool} {roots : List Sp} {now : List Bool} {i : Nat} (h : ∀ j, On now j → On on j ∧ Rch Rc.deps mt l on roots j) : ∀ j, On (reachAt l on roots now i) j → On on j ∧ Rch Rc.deps mt l on roots j := fun j hj => by
  unfold reachAt at hj
  split at hj
  · rename_i r x hr ho hx
    rw [on_set (List.getElem?_eq_some_iff.1 hx).1] at hj
    split at hj
    · rename_i e; subst e
      refine ⟨ho, ?_⟩
      rw [Bool.or_eq_true, Bool.or_eq_true] at hj
      rcases hj with (hj | hj) | hj
      · exact (h i (by unfold R.On; rw [hx, hj])).2
      · obtain ⟨s, h1, h2⟩ := List.any_eq_true.1 hj
        exact R.rch_root ho hr ⟨s, h1, h2⟩
      · obtain ⟨k, p, h1, h2, h3⟩ := dneeded_iff.1 hj
        exact R.rch_step (h k h1).2 (h k h1).1 h2 ho hr h3
    · exact h j hj
  · exact h j hj
theorem reachUpto_sound {l : List Rc} {on : List Bool} {roots : List Sp} {now : List Bool} (h : ∀ j, On now j → On on j ∧ Rch Rc.deps mt l on roots j) : ∀ n j, On (reachUpto l on roots now n) j → On on j ∧ Rch Rc.deps mt l on roots j
  | 0 => h
  | n + 1 => reachAt_sound (reachUpto_sound h n)
theorem reachIter_sound {l : List Rc} {on : List Bool} {roots : List Sp} : ∀ n j, On (reachIter l on roots n) j → On on j ∧ Rch Rc.deps mt l on roots j
  | 0 => fun j hj => by
    unfold reachIter R.On at hj
    rw [List.getElem?_replicate] at hj
    split at hj
    · simp at hj
    · cases hj
  | n + 1 => reachUpto_sound (reachIter_sound n) _
theorem rises {f : Nat → List Bool} {n : Nat} (hl : ∀ k, (f k).length = n) (hs : ∀ k, Sub (f k) (f (k + 1))) (hf : ∀ k, f (k + 1) = f k → ∀ j, k ≤ j → f j = f k) : f (n + 1) = f n := by
  have key : ∀ k, f (k + 1) = f k ∨ k + 1 ≤ R.count (f (k + 1)) := by
    intro k
    induction k with
    | zero =>
      by_cases e : f 1 = f 0
      · exact .inl e
      · have : R.count (f 0) < R.count (f (0 + 1)) := count_lt ((hl 0).trans (hl 1).symm) (hs 0) (fun h => e h.symm)
        right; omega
    | succ k ih =>
      rcases ih with e | ih
      · left
        rw [hf k e (k + 2) (by omega), hf k e (k + 1) (by omega)]
      · by_cases e : f (k + 2) = f (k + 1)
        · exact .inl e
        · have : R.count (f (k + 1)) < R.count (f (k + 1 + 1)) := count_lt ((hl (k + 1)).trans (hl (k + 2)).symm) (hs (k + 1)) (fun h => e h.symm)
          right; omega
  rcases key n with h | h
  · exact h
  · have := count_bd (f (n + 1))
    rw [hl] at this; omega
theorem reachIter_still {l : List Rc} {on : List Bool} {roots : List Sp} {k : Nat} (h : reachIter l on roots (k + 1) = reachIter l on roots k) : ∀ j, k ≤ j → reachIter l on roots j = reachIter l on roots k := by
  intro j hj
  induction j with
  | zero => obtain rfl : k = 0 := by omega
            rfl
  | succ j ih =>
    by_cases e : k = j + 1
    · subst e; rfl
    · show reachUpto l on roots (reachIter l on roots j) l.length = _
      rw [ih (by omega)]; exact h
/-- a round that changes nothing: all is told -/
theorem still_closed {l : List Rc} {on : List Bool} {roots : List Sp} {now : List Bool} (hn : now.length = l.length) (h : reachUpto l on roots now l.length = now) {i : Nat} {r : Rc} (hr : l[i]? = some r) (ho : On on i)
    (hx : (∃ s ∈ roots, mt s r = true) ∨ ∃ k p, On now k ∧ l[k]? = some p ∧ ∃ s ∈ p.deps, mt s r = true) : On now i := by
  have hi : i < l.length := (List.getElem?_eq_some_iff.1 hr).1
  have h1 := reachUpto_le (l := l) (on := on) (roots := roots) (now := now) (m := i + 1) l.length (by omega)
  rw [h] at h1
  apply h1
  have hb : (reachUpto l on roots now i).length = l.length := (reachUpto_len ..).trans hn
  show On (reachAt l on roots (reachUpto l on roots now i) i) i
  unfold reachAt
  unfold R.On at ho
  rw [hr, ho, List.getElem?_eq_getElem (by omega)]
  simp only
  rw [on_set (by omega), if_pos rfl, Bool.or_eq_true, Bool.or_eq_true]
  rcases hx with ⟨s, h2, h3⟩ | ⟨k, p, h2, h3, h4⟩
  · exact .inl (.inr (List.any_eq_true.2 ⟨s, h2, h3⟩))
  · exact .inr (dneeded_iff.2 ⟨k, p, reachUpto_up i k h2, h3, h4⟩)
/-- what the document reaches is what is reached -/
theorem reach_reached {l : List Rc} {on : List Bool} {roots : List Sp} : Reached Rc.deps mt l on roots (reachIter l on roots (l.length + 1)) := by
  have hfix := rises (f := reachIter l on roots) (reachIter_len l on roots) (fun k => reachUpto_up _) (fun k e => reachIter_still e)
  refine ⟨reachIter_len _ _ _ _, fun i => ⟨fun hi => (reachIter_sound _ i hi).2, fun hi => ?_⟩⟩
  rw [hfix]
  refine hi _ ⟨fun i q h1 h2 h3 => still_closed (reachIter_len _ _ _ _) hfix h2 h1 (.inl h3), fun k p i q hk h0 hp h1 h2 h3 => still_closed (reachIter_len _ _ _ _) hfix h2 h1 (.inr ⟨k, p, hk, hp, h3⟩)⟩
end Go.Proofs.YtpminhafljlldaaDoor.Q

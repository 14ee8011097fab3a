/- What is kept and what is reached, step by step, as sets of bits: plain. -/
import Derived.Test.YtpminhafljlldaaDoorQSetMath
namespace Go.Proofs.YtpminhafljlldaaDoor.Q
open R (On Sub Has Whole Kept Rch Reached RCl)

theorem ndAt_on {l : List Rc} {on : List Bool} {i : Nat} {r : Rc} (h : On on i) (hr : l[i]? = some r) : ndAt l on i = r.deps.map (fun s => mset s l on) := by
  unfold ndAt; unfold R.On at h; rw [if_pos h, hr]
theorem ndAt_off {l : List Rc} {on : List Bool} {i : Nat} (h : on[i]? = some false) : ndAt l on i = [] := by
  unfold ndAt; rw [h]; simp
theorem nds_at {l : List Rc} {on : List Bool} {i : Nat} (h : i < l.length) : (nds l on)[i]? = some (ndAt l on i) := by simp [nds, h]
theorem nds_len (l : List Rc) (on : List Bool) : (nds l on).length = l.length := by simp [nds]
/-- is all that a record needs in a set -/
def metB (l : List Rc) (on : List Bool) (S i : Nat) : Bool := (ndAt l on i).all fun x => x &&& S != 0
structure KInv (l : List Rc) (on : List Bool) (S : Nat) : Prop where
  sub : ∀ j, S.testBit j = true → On on j
  lt : ∀ j, S.testBit j = true → j < l.length
  most : ∀ k', Sub k' on → Whole Rc.deps mt l k' → ∀ j, On k' j → S.testBit j = true
theorem KInv.small {l : List Rc} {on : List Bool} {S : Nat} (h : KInv l on S) (hl : l.length ≤ 63) : S < 18446744073709551616 := Nat.lt_trans (lt_of_bits h.lt) (pow_small hl)
theorem keep_init {l : List Rc} {on : List Bool} (hl : on.length = l.length) : KInv l on (setOf (fun i => on[i]? == some true) l.length) := by
  refine ⟨fun j h => ?_, fun j h => ?_, fun k' hs _ j hj => ?_⟩
  · rw [setOf_bit] at h; simp at h; exact h.2
  · rw [setOf_bit] at h; simp at h; exact h.1
  · rw [setOf_bit]
    have := hs j hj
    have hlt := this.lt
    unfold On at this
    simp [this]; omega
theorem keep_step {l : List Rc} {on : List Bool} {S i : Nat} (h : KInv l on S) (hl : l.length ≤ 63) (hi : S.testBit i = true) (hm : metB l on S i = false) : KInv l on (without S i) := by
  have hi63 := h.lt i hi
  have hS := h.small hl
  have hw := without_bit hS (show i < 64 by omega)
  have sub' : ∀ j, (without S i).testBit j = true → S.testBit j = true := fun j hj => by
    rw [hw] at hj; simp at hj; exact hj.1
  refine ⟨fun j hj => h.sub j (sub' j hj), fun j hj => h.lt j (sub' j hj), fun k' hs hW j hj => ?_⟩
  rw [hw, h.most k' hs hW j hj]
  simp only [Bool.true_and, decide_eq_true_eq]
  rintro rfl
  obtain ⟨r, hr⟩ : ∃ r, l[i]? = some r := ⟨l[i], by simp [hi63]⟩
  unfold metB at hm
  rw [ndAt_on (h.sub i hi) hr] at hm
  rw [← Bool.not_eq_true, List.all_eq_true] at hm
  apply hm
  intro x hx
  obtain ⟨s, hs', rfl⟩ := List.mem_map.1 hx
  obtain ⟨j, q, h1, h2, h3⟩ := hW i r hj hr s hs'
  rw [bne_iff_ne, ne_eq, and_zero_iff]
  intro h0
  have := h0 j (mset_bit.2 ⟨hs j h1, q, h2, h3⟩)
  rw [h.most k' hs hW j h1] at this
  cases this
theorem keep_less {l : List Rc} {on : List Bool} {S i : Nat} (h : KInv l on S) (hl : l.length ≤ 63) (hi : S.testBit i = true) : bits (without S i) l.length < bits S l.length := by
  have hi63 := h.lt i hi
  have hw := without_bit (h.small hl) (show i < 64 by omega)
  refine bits_lt (i := i) (fun j hj => ?_) hi63 ?_ hi
  · rw [hw] at hj; simp at hj; exact hj.1
  · rw [hw]; simp
theorem keep_end {l : List Rc} {on : List Bool} {S : Nat} (h : KInv l on S) (hm : ∀ i, i < l.length → S.testBit i = true → metB l on S i = true) : Kept Rc.deps mt l on (flagsOf S l.length) := by
  refine ⟨flags_len _ _, fun i hi => h.sub i ((flags_on h.lt).1 hi), fun i r hi hr s hs => ?_, fun k' hs hW i hi => (flags_on h.lt).2 (h.most k' hs hW i hi)⟩
  have hi' := (flags_on h.lt).1 hi
  have := hm i (h.lt i hi') hi'
  unfold metB at this
  rw [ndAt_on (h.sub i hi') hr, List.all_eq_true] at this
  have h2 := this (mset s l on) (List.mem_map.2 ⟨s, hs, rfl⟩)
  exact (has_iff h.lt h.sub).1 (by simpa using h2)
/-- the roots that were asked so far -/
def rootsSet (l : List Rc) (on : List Bool) (roots : List Sp) : Nat := roots.foldl (fun S s => S ||| mset s l on) 0
theorem rootsSet_snoc {l : List Rc} {on : List Bool} {roots : List Sp} {k : Nat} {s : Sp} (h : roots[k]? = some s) : rootsSet l on (roots.take (k + 1)) = rootsSet l on (roots.take k) ||| mset s l on := by
  unfold rootsSet; rw [List.take_add_one, h, List.foldl_append]; rfl
theorem mset_small {s : Sp} {l : List Rc} {on : List Bool} (hl : l.length ≤ 63) : mset s l on < 18446744073709551616 := setOf_small _ hl
theorem foldor_small {l : List Rc} {on : List Bool} (hl : l.length ≤ 63) : ∀ (ss : List Sp) (S : Nat), S < 18446744073709551616 → ss.foldl (fun S s => S ||| mset s l on) S < 18446744073709551616
  | [], _, h => h
  | _ :: ss, _, h => foldor_small hl ss _ (or_lt h (mset_small hl))
theorem foldor_bit {l : List Rc} {on : List Bool} (j : Nat) : ∀ (ss : List Sp) (S : Nat), (ss.foldl (fun S s => S ||| mset s l on) S).testBit j = true ↔ S.testBit j = true ∨ ∃ s ∈ ss, (mset s l on).testBit j = true
  | [], S => by simp
  | s :: ss, S => by
    rw [List.foldl_cons, foldor_bit j ss, Nat.testBit_or]
    simp only [Bool.or_eq_true, List.mem_cons, exists_eq_or_imp]
    constructor
    · rintro ((h | h) | h)
      · exact .inl h
      · exact .inr (.inl h)
      · exact .inr (.inr h)
    · rintro (h | h | h)
      · exact .inl (.inl h)
      · exact .inl (.inr h)
      · exact .inr h
/-- what a record's needs add -/
def addNd (xs : List Nat) (S : Nat) : Nat := xs.foldl (· ||| ·) S
theorem addNd_snoc {xs : List Nat} {k x S : Nat} (h : xs[k]? = some x) : addNd (xs.take (k + 1)) S = addNd (xs.take k) S ||| x := by
  unfold addNd; rw [List.take_add_one, h, List.foldl_append]; rfl
theorem addNd_bit (j : Nat) : ∀ (xs : List Nat) (S : Nat), (addNd xs S).testBit j = true ↔ S.testBit j = true ∨ ∃ x ∈ xs, x.testBit j = true
  | [], S => by simp [addNd]
  | x :: xs, S => by
    have := addNd_bit j xs (S ||| x)
    unfold addNd at this ⊢
    rw [List.foldl_cons, this, Nat.testBit_or]
    simp only [Bool.or_eq_true, List.mem_cons, exists_eq_or_imp]
    constructor
    · rintro ((h | h) | h)
      · exact .inl h
      · exact .inr (.inl h)
      · exact .inr (.inr h)
    · rintro (h | h | h)
      · exact .inl (.inl h)
      · exact .inl (.inr h)
      · exact .inr h
theorem addNd_small : ∀ {xs : List Nat} {S : Nat}, (∀ x ∈ xs, x < 18446744073709551616) → S < 18446744073709551616 → addNd xs S < 18446744073709551616
  | [], _, _, h => h
  | x :: xs, S, hx, h => by
    unfold addNd; rw [List.foldl_cons]
    exact addNd_small (xs := xs) (fun y hy => hx y (List.mem_cons_of_mem _ hy)) (or_lt h (hx x (List.mem_cons_self ..)))
theorem ndAt_small {l : List Rc} {on : List Bool} (hl : l.length ≤ 63) (i : Nat) : ∀ x ∈ ndAt l on i, x < 18446744073709551616 := by
  intro x hx
  unfold ndAt at hx
  split at hx
  · split at hx
    · obtain ⟨s, _, rfl⟩ := List.mem_map.1 hx; exact mset_small hl
    · simp at hx
  · simp at hx
structure RInv (l : List Rc) (on : List Bool) (roots : List Sp) (S D : Nat) : Prop where
  rch : ∀ j, S.testBit j = true → Rch Rc.deps mt l on roots j
  sub : ∀ j, S.testBit j = true → On on j ∧ j < l.length
  root : ∀ s ∈ roots, ∀ j, (mset s l on).testBit j = true → S.testBit j = true
  dn : ∀ i, D.testBit i = true → S.testBit i = true
  step : ∀ i, D.testBit i = true → ∀ x ∈ ndAt l on i, ∀ j, x.testBit j = true → S.testBit j = true
theorem RInv.small {l : List Rc} {on : List Bool} {roots : List Sp} {S D : Nat} (h : RInv l on roots S D) (hl : l.length ≤ 63) : S < 18446744073709551616 ∧ D < 18446744073709551616 :=
  ⟨Nat.lt_trans (lt_of_bits fun j hj => (h.sub j hj).2) (pow_small hl), Nat.lt_trans (lt_of_bits fun j hj => (h.sub j (h.dn j hj)).2) (pow_small hl)⟩
theorem reach_init {l : List Rc} {on : List Bool} {roots : List Sp} : RInv l on roots (rootsSet l on roots) 0 := by
  refine ⟨fun j hj => ?_, fun j hj => ?_, fun s hs j hj => ?_, fun i hi => by simp at hi, fun i hi => by simp at hi⟩
  · rcases (foldor_bit j roots 0).1 hj with h | ⟨s, hs, h⟩
    · simp at h
    · obtain ⟨h1, r, h2, h3⟩ := mset_bit.1 h
      exact R.rch_root h1 h2 ⟨s, hs, h3⟩
  · rcases (foldor_bit j roots 0).1 hj with h | ⟨s, hs, h⟩
    · simp at h
    · obtain ⟨h1, r, h2, h3⟩ := mset_bit.1 h
      exact ⟨h1, (List.getElem?_eq_some_iff.1 h2).1⟩
  · exact (foldor_bit j roots 0).2 (.inr ⟨s, hs, hj⟩)
theorem or_pow_bit (D i j : Nat) : (D ||| 2 ^ i).testBit j = (D.testBit j || decide (i = j)) := by rw [Nat.testBit_or, Nat.testBit_two_pow]
theorem reach_step {l : List Rc} {on : List Bool} {roots : List Sp} {S D i : Nat} (h : RInv l on roots S D) (hi : S.testBit i = true) : RInv l on roots (addNd (ndAt l on i) S) (D ||| 2 ^ i) := by
  obtain ⟨hon, hlt⟩ := h.sub i hi
  obtain ⟨r, hr⟩ : ∃ r, l[i]? = some r := ⟨l[i], by simp [hlt]⟩
  have up : ∀ j, S.testBit j = true → (addNd (ndAt l on i) S).testBit j = true := fun j hj => (addNd_bit j _ _).2 (.inl hj)
  refine ⟨fun j hj => ?_, fun j hj => ?_, fun s hs j hj => up j (h.root s hs j hj), fun k hk => ?_, fun k hk x hx j hj => ?_⟩
  · rcases (addNd_bit j _ _).1 hj with h' | ⟨x, hx, hb⟩
    · exact h.rch j h'
    · rw [ndAt_on hon hr] at hx
      obtain ⟨s, hs, rfl⟩ := List.mem_map.1 hx
      obtain ⟨h1, q, h2, h3⟩ := mset_bit.1 hb
      exact R.rch_step (h.rch i hi) hon hr h1 h2 ⟨s, hs, h3⟩
  · rcases (addNd_bit j _ _).1 hj with h' | ⟨x, hx, hb⟩
    · exact h.sub j h'
    · rw [ndAt_on hon hr] at hx
      obtain ⟨s, hs, rfl⟩ := List.mem_map.1 hx
      obtain ⟨h1, q, h2, h3⟩ := mset_bit.1 hb
      exact ⟨h1, (List.getElem?_eq_some_iff.1 h2).1⟩
  · rw [or_pow_bit] at hk
    rcases Bool.or_eq_true _ _ ▸ hk with h' | h'
    · exact up k (h.dn k h')
    · obtain rfl : i = k := by simpa using h'
      exact up i hi
  · rw [or_pow_bit] at hk
    rcases Bool.or_eq_true _ _ ▸ hk with h' | h'
    · exact up j (h.step k h' x hx j hj)
    · obtain rfl : i = k := by simpa using h'
      exact (addNd_bit j _ _).2 (.inr ⟨x, hx, hj⟩)
theorem reach_more {D i n : Nat} (hi : i < n) (h : D.testBit i = false) : bits D n < bits (D ||| 2 ^ i) n := by
  refine bits_lt (i := i) (fun j hj => ?_) hi h ?_
  · rw [or_pow_bit, hj]; rfl
  · rw [or_pow_bit]; simp
theorem reach_end {l : List Rc} {on : List Bool} {roots : List Sp} {S D : Nat} (h : RInv l on roots S D) (hd : ∀ i, i < l.length → S.testBit i = true → D.testBit i = true) : Reached Rc.deps mt l on roots (flagsOf S l.length) := by
  have hlt : ∀ j, S.testBit j = true → j < l.length := fun j hj => (h.sub j hj).2
  refine ⟨flags_len _ _, fun i => ⟨fun hi => h.rch i ((flags_on hlt).1 hi), fun hi => (flags_on hlt).2 (hi (fun j => S.testBit j = true) ⟨fun i q h1 h2 h3 => ?_, fun k p i q hk h0 hp h1 h2 h3 => ?_⟩)⟩⟩
  · obtain ⟨s, hs, hm⟩ := h3
    exact h.root s hs i (mset_bit.2 ⟨h1, q, h2, hm⟩)
  · obtain ⟨s, hs, hm⟩ := h3
    exact h.step k (hd k (hlt k hk) hk) (mset s l on) (by rw [ndAt_on h0 hp]; exact List.mem_map.2 ⟨s, hs, rfl⟩) i (mset_bit.2 ⟨h1, q, h2, hm⟩)
end Go.Proofs.YtpminhafljlldaaDoor.Q

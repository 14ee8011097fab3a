/- Sets of places as the bits of a number: plain. -/
import Derived.Test.YtpminhafljlldaaDoorQRulesMath
import Derived.Test.YtpminhafljlldaaDoorRedMath
namespace Go.Proofs.YtpminhafljlldaaDoor.Q

/-- the number whose bits are the places below n at which f is so -/
def setOf (f : Nat → Bool) : Nat → Nat
  | 0 => 0
  | n + 1 => if f n then setOf f n ||| 2 ^ n else setOf f n
theorem setOf_bit (f : Nat → Bool) (n j : Nat) : (setOf f n).testBit j = (decide (j < n) && f j) := by
  induction n with
  | zero => simp [setOf]
  | succ n ih =>
    unfold setOf
    by_cases h : f n = true
    · rw [if_pos h, Nat.testBit_or, ih, Nat.testBit_two_pow]
      by_cases e : n = j
      · subst e; simp [h]
      · have : decide (j < n + 1) = decide (j < n) := by rw [decide_eq_decide]; omega
        rw [this]; simp [e]
    · rw [if_neg h, ih]
      by_cases e : j = n
      · subst e; simp [h]
      · have : decide (j < n + 1) = decide (j < n) := by rw [decide_eq_decide]; omega
        rw [this]
theorem lt_of_bits {S n : Nat} (h : ∀ j, S.testBit j = true → j < n) : S < 2 ^ n := by
  apply Nat.lt_pow_two_of_testBit
  intro i hi
  cases hb : S.testBit i
  · rfl
  · have := h i hb; omega
theorem setOf_lt (f : Nat → Bool) (n : Nat) : setOf f n < 2 ^ n := lt_of_bits fun j h => by
  rw [setOf_bit] at h; simp at h; exact h.1
theorem pow_small {n : Nat} (h : n ≤ 63) : 2 ^ n < 18446744073709551616 := Nat.lt_of_le_of_lt (Nat.pow_le_pow_right (by decide) h) (by decide)
theorem setOf_small (f : Nat → Bool) {n : Nat} (h : n ≤ 63) : setOf f n < 18446744073709551616 := Nat.lt_trans (setOf_lt f n) (pow_small h)
/-- is the record at a place on, and does it match -/
def hit (s : Sp) (l : List Rc) (on : List Bool) (i : Nat) : Bool := (on[i]? == some true) && ((l[i]?).map (mt s) == some true)
def mset (s : Sp) (l : List Rc) (on : List Bool) : Nat := setOf (hit s l on) l.length
/-- for each record that is on, what matches each of its Depends -/
def ndAt (l : List Rc) (on : List Bool) (i : Nat) : List Nat := if on[i]? = some true then (match l[i]? with | some r => r.deps.map (fun s => mset s l on) | none => []) else []
def nds (l : List Rc) (on : List Bool) : List (List Nat) := (List.range l.length).map (ndAt l on)
/-- the places below n at which a number has a bit -/
def flagsOf (S n : Nat) : List Bool := (List.range n).map S.testBit
theorem flags_len (S n : Nat) : (flagsOf S n).length = n := by simp [flagsOf]
theorem flags_at {S n i : Nat} (h : i < n) : (flagsOf S n)[i]? = some (S.testBit i) := by simp [flagsOf, h]
theorem flags_on {S n i : Nat} (hS : ∀ j, S.testBit j = true → j < n) : R.On (flagsOf S n) i ↔ S.testBit i = true := by
  unfold R.On
  by_cases h : i < n
  · rw [flags_at h]; simp
  · rw [List.getElem?_eq_none (by rw [flags_len]; omega)]
    simp
    cases hb : S.testBit i
    · rfl
    · exact absurd (hS i hb) h
theorem flags_setOf (on : List Bool) : flagsOf (setOf (fun i => on[i]? == some true) on.length) on.length = on := by
  apply List.ext_getElem?
  intro i
  by_cases h : i < on.length
  · rw [flags_at h, setOf_bit, decide_eq_true h, List.getElem?_eq_getElem h]
    cases on[i] <;> simp
  · rw [List.getElem?_eq_none (by rw [flags_len]; omega), List.getElem?_eq_none (by omega)]
theorem hit_iff {s : Sp} {l : List Rc} {on : List Bool} {i : Nat} : hit s l on i = true ↔ R.On on i ∧ ∃ r, l[i]? = some r ∧ mt s r = true := by
  unfold hit R.On
  simp
theorem mset_bit {s : Sp} {l : List Rc} {on : List Bool} {j : Nat} : (mset s l on).testBit j = true ↔ R.On on j ∧ ∃ r, l[j]? = some r ∧ mt s r = true := by
  unfold mset
  rw [setOf_bit, Bool.and_eq_true, decide_eq_true_eq, hit_iff]
  constructor
  · exact fun h => h.2
  · rintro ⟨h1, r, h2, h3⟩
    exact ⟨(List.getElem?_eq_some_iff.1 h2).1, h1, r, h2, h3⟩
theorem and_zero_iff {a b : Nat} : a &&& b = 0 ↔ ∀ j, a.testBit j = true → b.testBit j = false := by
  constructor
  · intro h j hj
    have := congrArg (·.testBit j) h
    simp only [Nat.testBit_and, Nat.zero_testBit, hj, Bool.true_and] at this
    exact this
  · intro h
    apply Nat.eq_of_testBit_eq
    intro j
    rw [Nat.testBit_and, Nat.zero_testBit]
    cases ha : a.testBit j
    · rfl
    · simp [h j ha]
/-- a spec has one that is in a set -/
theorem has_iff {s : Sp} {l : List Rc} {on : List Bool} {S : Nat} (hn : ∀ j, S.testBit j = true → j < l.length) (hsub : ∀ j, S.testBit j = true → R.On on j) : mset s l on &&& S ≠ 0 ↔ R.Has mt l (flagsOf S l.length) s := by
  rw [ne_eq, and_zero_iff]
  unfold R.Has
  constructor
  · intro h
    have : ∃ j, ¬ ((mset s l on).testBit j = true → S.testBit j = false) := Classical.not_forall.1 h
    obtain ⟨j, hj⟩ := this
    simp only [Classical.not_imp, Bool.not_eq_false] at hj
    obtain ⟨_, r, h2, h3⟩ := mset_bit.1 hj.1
    exact ⟨j, r, (flags_on hn).2 hj.2, h2, h3⟩
  · rintro ⟨j, q, h1, h2, h3⟩ h
    have hS := (flags_on hn).1 h1
    have := h j (mset_bit.2 ⟨hsub j hS, q, h2, h3⟩)
    rw [hS] at this; cases this
/-- how many bits below n -/
def bits (S n : Nat) : Nat := ((List.range n).filter fun i => S.testBit i).length
theorem bits_le (S n : Nat) : bits S n ≤ n := by
  unfold bits; have := List.length_filter_le (fun i => S.testBit i) (List.range n); simpa using this
theorem filter_lt {p q : Nat → Bool} (h : ∀ i, p i = true → q i = true) {k : Nat} : ∀ {l : List Nat}, k ∈ l → p k = false → q k = true → (l.filter p).length < (l.filter q).length
  | x :: l, hk, h1, h2 => by
    have hle : (l.filter p).length ≤ (l.filter q).length := by
      clear hk
      induction l with
      | nil => simp
      | cons y l ih =>
        simp only [List.filter_cons]
        cases hp : p y
        · cases hq : q y <;> simp <;> omega
        · rw [h y hp]; simp; omega
    simp only [List.filter_cons]
    rcases List.mem_cons.1 hk with rfl | hk
    · rw [h1, h2]; simp; omega
    · have := filter_lt h hk h1 h2
      cases hp : p x
      · cases hq : q x <;> simp <;> omega
      · rw [h x hp]; simp; omega
theorem bits_lt {S T n i : Nat} (hsub : ∀ j, S.testBit j = true → T.testBit j = true) (hi : i < n) (h1 : S.testBit i = false) (h2 : T.testBit i = true) : bits S n < bits T n :=
  filter_lt hsub (List.mem_range.2 hi) h1 h2
/-- S without the bit i -/
def without (S i : Nat) : Nat := S &&& (18446744073709551615 - 2 ^ i)
theorem without_bit {S i : Nat} (hS : S < 18446744073709551616) (hi : i < 64) (j : Nat) : (without S i).testBit j = (S.testBit j && decide (i ≠ j)) := by
  unfold without
  rw [Nat.testBit_and]
  by_cases hj : j < 64
  · have e : 18446744073709551615 - 2 ^ i = 2 ^ 64 - (2 ^ i + 1) := by omega
    rw [e, Nat.testBit_two_pow_sub_succ (Nat.pow_lt_pow_right (by decide) hi), Nat.testBit_two_pow]
    simp [hj]
  · have : S.testBit j = false := Nat.testBit_lt_two_pow (Nat.lt_of_lt_of_le hS (by rw [show (18446744073709551616 : Nat) = 2 ^ 64 by decide]; exact Nat.pow_le_pow_right (by decide) (by omega)))
    simp [this]
theorem without_lt {S i : Nat} (hS : S < 18446744073709551616) : without S i < 18446744073709551616 := Nat.lt_of_le_of_lt Nat.and_le_left hS
theorem or_lt {a b : Nat} (ha : a < 18446744073709551616) (hb : b < 18446744073709551616) : a ||| b < 18446744073709551616 := by
  rw [show (18446744073709551616 : Nat) = 2 ^ 64 by decide] at *; exact Nat.or_lt_two_pow ha hb
theorem shr_bit (S i : Nat) : S / 2 ^ i % 2 = (S.testBit i).toNat := by
  rw [← Nat.shiftRight_eq_div_pow, Nat.testBit, Nat.one_and_eq_mod_two, Nat.shiftRight_eq_div_pow]
  rcases Nat.mod_two_eq_zero_or_one (S / 2 ^ i) with h | h <;> simp [h]
end Go.Proofs.YtpminhafljlldaaDoor.Q

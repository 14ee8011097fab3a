/- The document's order of versions, its constraints and its globs, in plain terms: they are what the program computes. -/
import Derived.Test.YtpminhafljlldaaDoorQGlobMath
import Derived.Test.YtpminhafljlldaaDoorQRulesMath
namespace Go.Proofs.YtpminhafljlldaaDoor.Q

theorem less_tri : ∀ x y : List UInt8, x ≠ y → less y x = !less x y
  | [], [], h => absurd rfl h
  | _ :: _, [], _ => by simp [less, Go.Op.bytesLess]
  | [], _ :: _, _ => by simp [less, Go.Op.bytesLess]
  | a :: x, b :: y, h => by
    by_cases e : a = b
    · subst e
      have := less_tri x y (by simpa using h)
      simp only [less] at this
      simp [less, Go.Op.bytesLess, this]
    · have e' : b ≠ a := fun h => e h.symm
      have h1 : decide (b < a) = !decide (a < b) := by
        have : (b < a) ↔ ¬ (a < b) := by
          rw [UInt8.lt_iff_toNat_lt, UInt8.lt_iff_toNat_lt]
          have : a.toNat ≠ b.toNat := fun h => e (UInt8.toNat_inj.1 h)
          omega
        rw [← decide_not, Bool.eq_iff_iff, decide_eq_true_iff, decide_eq_true_iff]; exact this
      have h2 : (a == b) = false := by simpa using e
      have h3 : (b == a) = false := by simpa using e'
      simp only [less, Go.Op.bytesLess, h2, h3, Bool.false_and, Bool.or_false, h1]
theorem less_irrefl : ∀ x : List UInt8, less x x = false
  | [] => rfl
  | a :: x => by have := less_irrefl x; simp only [less] at this; simp [less, Go.Op.bytesLess, this]
/-- the document's order of items -/
def dlessL (a b : List UInt8) (m n : Int) : Bool :=
  if a == b then decide (m < n)
  else if a == [100, 101, 118] || b == [112, 111, 115, 116] then true
  else if b == [100, 101, 118] || a == [112, 111, 115, 116] then false
  else if a == [] then false
  else if b == [] then true
  else less a b
def dless (a b : It) : Bool := dlessL a.word.toList b.word.toList a.n b.n
theorem dlessL_eq (a b : List UInt8) (m n : Int) : dlessL a b m n = decide (or3 (cmpI (clsL a) (clsL b)) (if less a b then -1 else if !(less a b || a == b) then 1 else 0) (cmpI m n) < 0) := by
  unfold dlessL or3 cmpI clsL
  by_cases h : a = b
  · subst h
    simp only [less_irrefl, beq_self_eq_true, if_true]
    by_cases h1 : m < n
    · simp [h1]
    · simp [h1]; split <;> simp
  · have hb : (a == b) = false := by simpa using h
    simp only [hb]
    by_cases a1 : a = [100, 101, 118] <;> by_cases b1 : b = [100, 101, 118] <;> by_cases a2 : a = [] <;> by_cases b2 : b = [] <;> by_cases a3 : a = [112, 111, 115, 116] <;> by_cases b3 : b = [112, 111, 115, 116] <;>
      first
      | (subst a1; simp_all; done)
      | (simp_all; done)
      | (simp [a1, b1, a2, b2, a3, b3]; cases less a b <;> simp; done)
theorem dless_eq (a b : It) : dless a b = decide (cmpIt a b < 0) := dlessL_eq _ _ _ _
theorem cmpI_swap (a b : Int) : cmpI b a = -cmpI a b := by unfold cmpI; repeat' split <;> omega
theorem cmpS_swap (a b : ByteArray) : cmpS b a = -cmpS a b := by
  unfold cmpS
  by_cases h : a.toList = b.toList
  · rw [h]; simp [less_irrefl]
  · have h1 := less_tri _ _ h
    have h2 : (a.toList == b.toList) = false := by simpa using h
    have h3 : (b.toList == a.toList) = false := by simpa using fun e => h e.symm
    rw [h1, h2, h3]
    cases less a.toList b.toList <;> simp
theorem or3_neg (x y z : Int) : or3 (-x) (-y) (-z) = -or3 x y z := by unfold or3; repeat' split <;> omega
theorem cmpIt_swap (a b : It) : cmpIt b a = -cmpIt a b := by unfold cmpIt; rw [cmpI_swap, cmpS_swap, cmpI_swap a.n, or3_neg]
theorem dless_swap (a b : It) : dless b a = decide (0 < cmpIt a b) := by
  rw [dless_eq, cmpIt_swap]; rw [Bool.eq_iff_iff, decide_eq_true_iff, decide_eq_true_iff]; omega
theorem cmpIt_self (a : It) : cmpIt a a = 0 := by have := cmpIt_swap a a; omega
theorem cmpIt_of {a b : It} : (dless a b = true → cmpIt a b = -1) ∧ (dless b a = true → cmpIt a b = 1) ∧ (dless a b = false → dless b a = false → cmpIt a b = 0) := by
  rw [dless_eq, dless_swap]
  have := cmpIt_bd a b
  simp only [decide_eq_true_iff, decide_eq_false_iff_not]
  omega
/-- a missing component is held as that of the number 0 -/
theorem at1_zero (i : Nat) : at1 [zero] i zero = zero := by
  unfold at1; cases i <;> rfl
theorem at1_none {α : Type} (i : Nat) (z : α) : at1 ([] : List α) i z = z := by unfold at1; simp
theorem rowsFrom_congr {α : Type} {z : α} {f : α → α → Int} {a b a' b' : List α} (h : ∀ i, f (at1 a i z) (at1 b i z) = f (at1 a' i z) (at1 b' i z)) : ∀ n i, rowsFrom z f a b n i = rowsFrom z f a' b' n i
  | 0, _ => rfl
  | n + 1, i => by unfold rowsFrom; rw [h i, rowsFrom_congr h n (i + 1)]
theorem rowsFrom_more {α : Type} {z : α} {f : α → α → Int} {a b : List α} (hz : f z z = 0) : ∀ n m i, a.length ≤ i + n → b.length ≤ i + n → rowsFrom z f a b (n + m) i = rowsFrom z f a b n i
  | 0, 0, _, _, _ => rfl
  | 0, m + 1, i, ha, hb => by
    have e1 : at1 a i z = z := by unfold at1; rw [List.getElem?_eq_none (by omega)]; rfl
    have e2 : at1 b i z = z := by unfold at1; rw [List.getElem?_eq_none (by omega)]; rfl
    rw [Nat.zero_add]
    unfold rowsFrom
    rw [e1, e2, hz]
    have := rowsFrom_more (a := a) (b := b) hz 0 m (i + 1) (by omega) (by omega)
    rw [Nat.zero_add] at this
    simp [this, rowsFrom]
  | n + 1, m, i, ha, hb => by
    rw [show n + 1 + m = (n + m) + 1 by omega]
    unfold rowsFrom
    rw [rowsFrom_more hz n m (i + 1) (by omega) (by omega)]
theorem cmpC_zero (y : List It) : cmpC [zero] y = cmpC [] y := by
  unfold cmpC rows
  have h : ∀ n i, rowsFrom zero cmpIt [zero] y n i = rowsFrom zero cmpIt [] y n i := rowsFrom_congr fun i => by rw [at1_zero, at1_none]
  rw [h]
  cases y with
  | nil => simp [rowsFrom, at1_none, cmpIt_self]
  | cons x y => simp
theorem cmpC_swap (a b : List It) : cmpC b a = -cmpC a b := by
  unfold cmpC rows
  rw [Nat.max_comm]
  generalize max a.length b.length = n
  generalize 0 = i
  induction n generalizing i with
  | zero => simp [rowsFrom]
  | succ n ih =>
    unfold rowsFrom
    rw [ih (i + 1), cmpIt_swap (at1 a i zero)]
    by_cases h : cmpIt (at1 a i zero) (at1 b i zero) = 0 <;> simp [h]
theorem cmpC_zero2 (y : List It) : cmpC y [zero] = cmpC y [] := by rw [cmpC_swap, cmpC_zero, ← cmpC_swap]
/-- a component of a version, or that of the number 0 -/
def dpart (l : List (List It)) (i : Nat) : List It := at1 l i [zero]
theorem cmpC_part (l : List (List It)) (i : Nat) (y : List It) : cmpC (dpart l i) y = cmpC (at1 l i []) y ∧ cmpC y (dpart l i) = cmpC y (at1 l i []) := by
  unfold dpart at1
  cases l[i]? with
  | none => exact ⟨cmpC_zero y, cmpC_zero2 y⟩
  | some x => exact ⟨rfl, rfl⟩
theorem at1_part (l : List (List It)) (i j : Nat) : at1 (dpart l i) j zero = at1 (at1 l i []) j zero := by
  unfold dpart at1
  cases l[i]? with
  | none => simpa [at1] using at1_zero j
  | some x => rfl

/-- globs, read from behind -/
theorem gm_nil (t : List UInt8) : globM [] t = t.isEmpty := by cases t <;> simp [globM]
theorem gm_app (q : List UInt8) : ∀ p t : List UInt8, globM (p ++ q) t = true ↔ ∃ u v, t = u ++ v ∧ globM p u = true ∧ globM q v = true
  | [], t => by
    constructor
    · intro h; exact ⟨[], t, rfl, by simp [gm_nil], h⟩
    · rintro ⟨u, v, rfl, h1, h2⟩
      rw [gm_nil] at h1
      have : u = [] := by simpa using h1
      subst this; exact h2
  | c :: p, t => by
    by_cases hc : c = 42
    · subst hc
      rw [List.cons_append, gm_star]
      constructor
      · rintro ⟨x, y, rfl, h⟩
        obtain ⟨u, v, rfl, h1, h2⟩ := (gm_app q p y).1 h
        exact ⟨x ++ u, v, by simp, (gm_star p _).2 ⟨x, u, rfl, h1⟩, h2⟩
      · rintro ⟨u, v, rfl, h1, h2⟩
        obtain ⟨x, y, rfl, h3⟩ := (gm_star p u).1 h1
        exact ⟨x, y ++ v, by simp, (gm_app q p _).2 ⟨y, v, rfl, h3, h2⟩⟩
    · have hm : 42 ∉ [c] := by simp; exact fun e => hc e.symm
      have e1 : c :: p ++ q = [c] ++ (p ++ q) := rfl
      have e2 : c :: p = [c] ++ p := rfl
      rw [e1, gm_lit _ _ _ hm]
      constructor
      · rintro ⟨y, rfl, h⟩
        obtain ⟨u, v, rfl, h1, h2⟩ := (gm_app q p y).1 h
        exact ⟨[c] ++ u, v, by simp, by rw [e2, gm_lit _ _ _ hm]; exact ⟨u, rfl, h1⟩, h2⟩
      · rintro ⟨u, v, rfl, h1, h2⟩
        rw [e2, gm_lit _ _ _ hm] at h1
        obtain ⟨y, rfl, h3⟩ := h1
        exact ⟨y ++ v, by simp, (gm_app q p _).2 ⟨y, v, rfl, h3, h2⟩⟩
theorem gm_one_star (v : List UInt8) : globM [42] v = true := (gm_star [] v).2 ⟨v, [], by simp, by simp [gm_nil]⟩
theorem gm_one {c : UInt8} (hc : (c == 42) = false) (v : List UInt8) : globM [c] v = true ↔ v = [c] := by
  have hm : 42 ∉ [c] := by simp at hc ⊢; exact fun e => hc e.symm
  have := gm_lit [] [c] v hm
  simp only [List.append_nil] at this
  rw [this]
  constructor
  · rintro ⟨y, rfl, h⟩
    rw [gm_nil] at h
    have : y = [] := by simpa using h
    subst this; rfl
  · rintro rfl; exact ⟨[], rfl, by simp [gm_nil]⟩
theorem gm_star0 (p : List UInt8) : globM (p ++ [42]) [] = globM p [] := by
  rw [Bool.eq_iff_iff, gm_app]
  constructor
  · rintro ⟨u, v, e, h1, _⟩
    have : u = [] := by have := congrArg List.length e; simp at this; exact List.eq_nil_of_length_eq_zero (by omega)
    subst this; exact h1
  · intro h; exact ⟨[], [], rfl, h, gm_one_star _⟩
theorem gm_starS (p t : List UInt8) (d : UInt8) : globM (p ++ [42]) (t ++ [d]) = (globM p (t ++ [d]) || globM (p ++ [42]) t) := by
  rw [Bool.eq_iff_iff, Bool.or_eq_true, gm_app, gm_app]
  constructor
  · rintro ⟨u, v, e, h1, _⟩
    rcases List.eq_nil_or_concat v with rfl | ⟨v', x, rfl⟩
    · left; rw [e]; simpa using h1
    · right
      rw [List.concat_eq_append, ← List.append_assoc] at e
      have := List.append_inj' e rfl
      exact ⟨u, v', this.1, h1, gm_one_star _⟩
  · rintro (h | ⟨u, v, rfl, h1, _⟩)
    · exact ⟨t ++ [d], [], by simp, h, gm_one_star _⟩
    · exact ⟨u, v ++ [d], by simp, h1, gm_one_star _⟩
theorem gm_lit0 (p : List UInt8) {c : UInt8} (hc : (c == 42) = false) : globM (p ++ [c]) [] = false := by
  cases h : globM (p ++ [c]) [] with
  | false => rfl
  | true =>
    obtain ⟨u, v, e, _, h2⟩ := (gm_app _ _ _).1 h
    rw [gm_one hc] at h2
    subst h2
    have := congrArg List.length e; simp at this
theorem gm_litS (p t : List UInt8) (d : UInt8) {c : UInt8} (hc : (c == 42) = false) : globM (p ++ [c]) (t ++ [d]) = (globM p t && (d == c)) := by
  rw [Bool.eq_iff_iff, Bool.and_eq_true, gm_app]
  constructor
  · rintro ⟨u, v, e, h1, h2⟩
    rw [gm_one hc] at h2
    subst h2
    have := List.append_inj' e rfl
    obtain ⟨rfl, h⟩ := this
    exact ⟨h1, by simpa using h⟩
  · rintro ⟨h1, h2⟩
    have : d = c := by simpa using h2
    subst this
    exact ⟨t, [d], rfl, h1, (gm_one hc _).2 rfl⟩
/-- does the first part of a pattern match the first part of a text -/
def gp (P T : List UInt8) (k i : Nat) : Bool := globM (P.take k) (T.take i)
theorem gp00 (P T : List UInt8) (i : Nat) (hi : i ≤ T.length) : gp P T 0 i = decide (i = 0) := by
  unfold gp; rw [List.take_zero, gm_nil]
  cases i with
  | zero => simp
  | succ i =>
    have : T ≠ [] := fun e => by subst e; simp at hi
    simp [this]
theorem gp_star {P T : List UInt8} {k i : Nat} (hc : P[k]? = some 42) (hi : i ≤ T.length) : gp P T (k + 1) i = (gp P T k i || (decide (0 < i) && gp P T (k + 1) (i - 1))) := by
  unfold gp
  rw [List.take_add_one, hc, show (some (42 : UInt8)).toList = [42] from rfl]
  cases i with
  | zero => simp [gm_star0]
  | succ i =>
    have : T[i]? = some T[i] := by simp
    rw [List.take_add_one, this, show (some T[i]).toList = [T[i]] from rfl, gm_starS]
    simp
theorem gp_lit {P T : List UInt8} {k i : Nat} {c : UInt8} (hc : P[k]? = some c) (h42 : (c == 42) = false) (hi : i ≤ T.length) : gp P T (k + 1) i = (decide (0 < i) && gp P T k (i - 1) && (T[i - 1]? == some c)) := by
  unfold gp
  rw [List.take_add_one, hc, show (some c).toList = [c] from rfl]
  cases i with
  | zero => simp [gm_lit0 _ h42]
  | succ i =>
    have : T[i]? = some T[i] := by simp
    rw [List.take_add_one, this, show (some T[i]).toList = [T[i]] from rfl, gm_litS _ _ _ h42]
    simp [this]
theorem gp_all (P T : List UInt8) : gp P T P.length T.length = globM P T := by unfold gp; simp
end Go.Proofs.YtpminhafljlldaaDoor.Q

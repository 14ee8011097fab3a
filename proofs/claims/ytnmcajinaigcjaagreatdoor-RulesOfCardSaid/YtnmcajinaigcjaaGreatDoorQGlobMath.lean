/- The greedy search of a pattern in a text: plain facts. -/
import Derived.Test.YtnmcajinaigcjaaGreatDoorQMath
namespace Go.Proofs.YtnmcajinaigcjaaGreatDoor.Q

theorem gm_star (q : List UInt8) : ∀ t : List UInt8, globM (42 :: q) t = true ↔ ∃ u v, t = u ++ v ∧ globM q v = true
  | [] => by
    rw [globM]
    constructor
    · intro h; exact ⟨[], [], rfl, by simpa using h⟩
    · rintro ⟨u, v, e, h⟩
      have : v = [] := by have := congrArg List.length e; simp at this; exact List.eq_nil_of_length_eq_zero (by omega)
      subst this; simpa using h
  | d :: s => by
    rw [globM]
    simp only [beq_self_eq_true, if_true, Bool.or_eq_true, gm_star q s]
    constructor
    · rintro (h | ⟨u, v, rfl, h⟩)
      · exact ⟨[], d :: s, rfl, h⟩
      · exact ⟨d :: u, v, rfl, h⟩
    · rintro ⟨u, v, e, h⟩
      cases u with
      | nil => simp at e; subst e; exact .inl h
      | cons x u => simp at e; exact .inr ⟨u, v, e.2, h⟩
theorem gm_lit (q : List UInt8) : ∀ (l t : List UInt8), 42 ∉ l → (globM (l ++ q) t = true ↔ ∃ v, t = l ++ v ∧ globM q v = true)
  | [], t, _ => by simp
  | c :: l, [], hl => by
    rw [List.cons_append, globM]
    have : (c == 42) = false := by simp at hl ⊢; exact fun e => hl.1 e.symm
    simp [this]
  | c :: l, d :: t, hl => by
    rw [List.cons_append, globM]
    have : (c == 42) = false := by simp at hl ⊢; exact fun e => hl.1 e.symm
    have ih := gm_lit q l t (by simp at hl; exact hl.2)
    simp only [this, Bool.false_eq_true, if_false, Bool.and_eq_true, beq_iff_eq, ih]
    constructor
    · rintro ⟨rfl, v, rfl, h⟩; exact ⟨v, rfl, h⟩
    · rintro ⟨v, e, h⟩; simp at e; exact ⟨e.1.symm, v, e.2, h⟩
theorem gm_next (l q t : List UInt8) (hl : 42 ∉ l) : globM (42 :: (l ++ 42 :: q)) (l ++ t) = globM (42 :: q) t := by
  rw [Bool.eq_iff_iff, gm_star, gm_star]
  constructor
  · rintro ⟨u, v, e, h0⟩
    obtain ⟨x, rfl, h1⟩ := (gm_lit _ l v hl).1 h0
    obtain ⟨y, z, rfl, h⟩ := (gm_star _ _).1 h1
    have e2 : l ++ t = (u ++ l ++ y) ++ z := by simpa using e
    have hlen : l.length ≤ (u ++ l ++ y).length := by simp; omega
    have := congrArg (List.drop l.length) e2
    rw [List.drop_left, List.drop_append_of_le_length hlen] at this
    exact ⟨_, z, this, h⟩
  · rintro ⟨x, y, rfl, h⟩
    exact ⟨[], l ++ (x ++ y), rfl, (gm_lit _ l _ hl).2 ⟨_, rfl, (gm_star _ _).2 ⟨x, y, rfl, h⟩⟩⟩
theorem gm_all (l : List UInt8) (hl : 42 ∉ l) : globM (42 :: l) l = true := by
  rw [gm_star]; exact ⟨[], l, rfl, by have := (gm_lit [] l l hl).2 ⟨[], by simp, by rw [globM]⟩; simpa using this⟩
theorem gm_short (l q : List UInt8) (c : UInt8) (hl : 42 ∉ l) (hc : (c == 42) = false) : globM (42 :: (l ++ c :: q)) l = false := by
  cases h : globM (42 :: (l ++ c :: q)) l with
  | false => rfl
  | true =>
    obtain ⟨u, v, e, h0⟩ := (gm_star _ _).1 h
    obtain ⟨x, rfl, h1⟩ := (gm_lit _ l v hl).1 h0
    have : x = [] := by have := congrArg List.length e; simp at this; exact List.eq_nil_of_length_eq_zero (by omega)
    subst this
    rw [globM, hc] at h1; simp at h1
/-- what was read of the pattern behind the last star stands in the text -/
structure Inv (P T : List UInt8) (r : Bool) (p i : Nat) (st : Int) (f : Nat) : Prop where
  hp : p ≤ P.length
  hi : i ≤ T.length
  hf : f ≤ i
  lo : -1 ≤ st
  le : st ≤ p
  cases : (st = -1 ∧ globM (P.drop p) (T.drop i) = r) ∨ ∃ s : Nat, st = s ∧ globM (42 :: P.drop s) (T.drop f) = r ∧ ∃ l, 42 ∉ l ∧ P.drop s = l ++ P.drop p ∧ T.drop f = l ++ T.drop i
theorem inv0 (P T : List UInt8) : Inv P T (globM P T) 0 0 (-1) 0 := ⟨by omega, by omega, by omega, by omega, by omega, .inl ⟨rfl, by simp⟩⟩
theorem drop_at {l : List UInt8} {k : Nat} {c : UInt8} (h : l[k]? = some c) : l.drop k = c :: l.drop (k + 1) := by
  obtain ⟨hk, rfl⟩ := List.getElem?_eq_some_iff.1 h
  exact List.drop_eq_getElem_cons hk
theorem lt_at {l : List UInt8} {k : Nat} {c : UInt8} (h : l[k]? = some c) : k < l.length := (List.getElem?_eq_some_iff.1 h).1
section
variable {P T : List UInt8} {r : Bool} {p i f : Nat} {st : Int}
theorem Inv.star (h : Inv P T r p i st f) (hc : P[p]? = some 42) : Inv P T r (p + 1) i ((p : Int) + 1) i := by
  have hd := drop_at hc
  have hl := lt_at hc
  refine ⟨by omega, h.hi, by omega, by omega, by omega, .inr ⟨p + 1, by omega, ?_, [], by simp, rfl, rfl⟩⟩
  rcases h.cases with ⟨_, h1⟩ | ⟨s, _, h1, l, h2, h3, h4⟩
  · rwa [hd] at h1
  · rw [h3, h4, hd, gm_next _ _ _ h2] at h1; exact h1
theorem Inv.done (h : Inv P T r p i st f) (he : T.length ≤ i) (hc : ∀ c, P[p]? = some c → (c == 42) = false) : r = decide (p = P.length) := by
  have ht : T.drop i = [] := List.drop_eq_nil_of_le he
  rcases Nat.lt_or_ge p P.length with hl | hl
  · have hd := drop_at (List.getElem?_eq_getElem hl)
    have hc' := hc _ (List.getElem?_eq_getElem hl)
    rw [decide_eq_false (by omega)]
    rcases h.cases with ⟨_, h1⟩ | ⟨s, _, h1, l, h2, h3, h4⟩
    · rw [hd, ht, globM, hc'] at h1; simpa using h1.symm
    · rw [h3, h4, ht, hd, List.append_nil, gm_short _ _ _ h2 hc'] at h1; exact h1.symm
  · have hd : P.drop p = [] := List.drop_eq_nil_of_le hl
    have := h.hp
    rw [decide_eq_true (by omega)]
    rcases h.cases with ⟨_, h1⟩ | ⟨s, _, h1, l, h2, h3, h4⟩
    · rw [hd, ht, globM] at h1; exact h1.symm
    · rw [h3, h4, ht, hd, List.append_nil, gm_all _ h2] at h1; exact h1.symm
theorem Inv.same (h : Inv P T r p i st f) {c : UInt8} (hc : P[p]? = some c) (ht : T[i]? = some c) (h42 : (c == 42) = false) : Inv P T r (p + 1) (i + 1) st f := by
  have hd := drop_at hc
  have hd2 := drop_at ht
  have hl := lt_at hc
  have hl2 := lt_at ht
  have := h.hf; have := h.le; have := h.lo
  refine ⟨by omega, by omega, by omega, by omega, by omega, ?_⟩
  rcases h.cases with ⟨h0, h1⟩ | ⟨s, h0, h1, l, h2, h3, h4⟩
  · left
    rw [hd, hd2, globM, h42] at h1
    exact ⟨h0, by simpa using h1⟩
  · right
    refine ⟨s, h0, h1, l ++ [c], ?_, by rw [h3, hd]; simp, by rw [h4, hd2]; simp⟩
    simp only [List.mem_append, List.mem_singleton, not_or]
    exact ⟨h2, fun e => by rw [← e] at h42; simp at h42⟩
theorem gm_part {Q t : List UInt8} {d : UInt8} (h : ∀ c q, Q = c :: q → (c == 42) = false ∧ (c == d) = false) : globM Q (d :: t) = false := by
  cases Q with
  | nil => rw [globM]
  | cons c q => obtain ⟨h1, h2⟩ := h c q rfl; rw [globM, h1, h2]; simp
theorem Inv.no (h : Inv P T r p i st f) (hs : st < 0) {d : UInt8} (ht : T[i]? = some d) (hc : ∀ c, P[p]? = some c → (c == 42) = false ∧ (c == d) = false) : r = false := by
  rcases h.cases with ⟨h0, h1⟩ | ⟨s, h0, _⟩
  · rw [drop_at ht, gm_part (fun c q e => hc c ?_)] at h1
    · exact h1.symm
    · rw [← List.head?_drop, e]; rfl
  · omega
theorem Inv.all (h : Inv P T r p i st f) (hs : st = P.length) : r = true := by
  rcases h.cases with ⟨h0, h1⟩ | ⟨s, h0, h1, _⟩
  · have := h.le; omega
  · rw [List.drop_eq_nil_of_le (by omega)] at h1
    rw [← h1, gm_star]; exact ⟨T.drop f, [], by simp, by rw [globM]⟩
theorem Inv.again (h : Inv P T r p i st f) {s : Nat} (hs : st = s) {d : UInt8} (ht : T[i]? = some d) (hc : ∀ c, P[p]? = some c → (c == 42) = false ∧ (c == d) = false) : Inv P T r s (f + 1) s (f + 1) := by
  have hl := lt_at ht
  have := h.hf; have := h.le; have := h.hp
  refine ⟨by omega, by omega, by omega, by omega, by omega, ?_⟩
  rcases h.cases with ⟨h0, h1⟩ | ⟨s', h0, h1, l, h2, h3, h4⟩
  · omega
  · obtain rfl : s' = s := by omega
    refine .inr ⟨s', rfl, ?_, [], by simp, rfl, rfl⟩
    have hft := drop_at (List.getElem?_eq_getElem (show f < T.length by omega))
    rw [hft, globM] at h1
    simp only [beq_self_eq_true, if_true] at h1
    have : globM (P.drop s') (T[f] :: T.drop (f + 1)) = false := by
      rw [← hft, h3, h4]
      cases hg : globM (l ++ P.drop p) (l ++ T.drop i) with
      | false => rfl
      | true =>
        obtain ⟨v, e, h5⟩ := (gm_lit _ l _ h2).1 hg
        obtain rfl := List.append_cancel_left e
        rw [drop_at ht, gm_part (fun c q e => hc c (by rw [← List.head?_drop, e]; rfl))] at h5
        cases h5
    rwa [this, Bool.false_or] at h1
end
end Go.Proofs.YtnmcajinaigcjaaGreatDoor.Q

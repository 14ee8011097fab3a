/- Plain facts about formulas, gate by gate: no program in sight. -/
import Derived.Test.YtgpifbhfnbkgoaaDoorMath
namespace Go.Proofs.YtgpifbhfnbkgoaaDoor.M

/-- are all literals of a formula with so many variables? -/
def own (vars : Nat) (l : List Int) : Bool := l.all fun x => !(x == 0) && decide (-(vars : Int) ≤ x) && decide (x ≤ (vars : Int))
theorem own_iff (vars : Nat) (l : List Int) : own vars l = true ↔ ∀ x ∈ l, x ≠ 0 ∧ -(vars : Int) ≤ x ∧ x ≤ (vars : Int) := by
  simp [own, and_assoc]
theorem own_isLit {vars : Nat} (hv : vars ≤ 20000) {l : List Int} (h : own vars l = true) : ∀ x ∈ l, isLit x = true := by
  intro x hx; have := (own_iff vars l).1 h x hx; rw [isLit_iff]; omega
theorem own_step {vars : Nat} {zs : List Int} {k : Nat} {z : Int} (h : zs[k]? = some z) (hr : own vars (zs.take k) = true) (hz : z ≠ 0 ∧ -(vars : Int) ≤ z ∧ z ≤ (vars : Int)) : own vars (zs.take (k + 1)) = true := by
  rw [own_iff] at *
  intro x hx
  rw [List.take_add_one, h] at hx
  rcases List.mem_append.1 hx with hx | hx
  · exact hr x hx
  · simp at hx; subst hx; exact hz
theorem own_miss {vars : Nat} {zs : List Int} {k : Nat} {z : Int} (h : zs[k]? = some z) (hz : z = 0 ∨ z < -(vars : Int) ∨ (vars : Int) < z) : own vars zs = false := by
  cases hh : own vars zs
  · rfl
  · have := (own_iff _ _).1 hh z (List.mem_of_getElem? h); omega
/-- clauses with one more, unless it is always true -/
def addC (cs : List (List Int)) (c : List Int) : List (List Int) := if adj (norm c) then cs else cs ++ [norm c]
theorem adj_norm {c : List Int} (h : ∀ x ∈ c, isLit x = true) : adj (norm c) = true ↔ ∃ x, x ∈ c ∧ -x ∈ c := by
  rw [adj_iff (sorted_norm c) (fun x hx => ((isLit_iff x).1 (h x ((mem_norm c x).1 hx))).1)]
  simp [mem_norm]
theorem tru_norm (c : List Int) (m : List Bool) : tru (norm c) m = tru c m := by
  rw [Bool.eq_iff_iff]
  simp only [tru, List.any_eq_true, mem_norm]
theorem tru_adj {c : List Int} (h : ∀ x ∈ c, isLit x = true) (ha : adj (norm c) = true) (m : List Bool) : tru c m = true := by
  obtain ⟨x, hx, hy⟩ := (adj_norm h).1 ha
  refine List.any_eq_true.2 ?_
  cases hh : holds x m
  · exact ⟨-x, hy, by rw [holds_neg m (h x hx), hh]; rfl⟩
  · exact ⟨x, hx, hh⟩
theorem allTrue_addC (cs : List (List Int)) {c : List Int} (h : ∀ x ∈ c, isLit x = true) (m : List Bool) : allTrue (addC cs c) m = (allTrue cs m && tru c m) := by
  unfold addC
  split
  · rename_i ha; rw [tru_adj h ha m, Bool.and_true]
  · simp [allTrue, List.all_append, tru_norm]
theorem allTrue_addCs (cs ds : List (List Int)) (h : ∀ c ∈ ds, ∀ x ∈ c, isLit x = true) (m : List Bool) : allTrue (ds.foldl addC cs) m = (allTrue cs m && allTrue ds m) := by
  induction ds generalizing cs with
  | nil => simp [allTrue]
  | cons c ds ih =>
    rw [List.foldl_cons, ih _ (fun d hd => h d (List.mem_cons_of_mem _ hd)), allTrue_addC cs (h c (by simp)) m]
    simp [allTrue, Bool.and_assoc]
theorem addC_length (cs : List (List Int)) (c : List Int) : (addC cs c).length ≤ cs.length + 1 := by
  unfold addC; split <;> simp
theorem addCs_length (cs ds : List (List Int)) : (ds.foldl addC cs).length ≤ cs.length + ds.length := by
  induction ds generalizing cs with
  | nil => simp
  | cons c ds ih => have := ih (addC cs c); have := addC_length cs c; simp; omega
/-- a gate's clauses: 1 And, 2 Or, 3 Xor, else Most -/
def andC (g : Int) (l : List Int) : List (List Int) := l.map (fun x => [-g, x]) ++ [g :: l.map (- ·)]
def orC (g : Int) (l : List Int) : List (List Int) := l.map (fun x => [g, -x]) ++ [-g :: l]
def xorC (g a b : Int) : List (List Int) := [[-g, a, b], [-g, -a, -b], [g, -a, b], [g, a, -b]]
def mostC (g a b c : Int) : List (List Int) := [[-g, a, b], [-g, a, c], [-g, b, c], [g, -a, -b], [g, -a, -c], [g, -b, -c]]
/-- the literals of l that are so -/
def count (l : List Int) (m : List Bool) : Nat := l.countP (holds · m)

theorem all_pair (l : List Int) (b : Bool) (f : Int → Bool) : (l.all fun x => b || f x) = (b || l.all f) := by
  cases b <;> simp
theorem andC_true {g : Int} {l : List Int} (hg : isLit g = true) (hl : ∀ x ∈ l, isLit x = true) (m : List Bool) :
    allTrue (andC g l) m = (holds g m == l.all (holds · m)) := by
  have e1 : (l.map fun x => [-g, x]).all (tru · m) = (!(holds g m) || l.all (holds · m)) := by
    rw [List.all_map, ← all_pair]
    refine congrArg (fun f => l.all f) (funext fun x => ?_)
    simp [tru, holds_neg m hg]
  have e2 : (l.map (- ·)).any (holds · m) = !(l.all (holds · m)) := by
    rw [List.any_map, List.not_all_eq_any_not]
    rw [Bool.eq_iff_iff]; simp only [List.any_eq_true, Function.comp]
    constructor
    · rintro ⟨x, hx, h⟩; exact ⟨x, hx, by rw [holds_neg m (hl x hx)] at h; exact h⟩
    · rintro ⟨x, hx, h⟩; exact ⟨x, hx, by rw [holds_neg m (hl x hx)]; exact h⟩
  unfold andC allTrue
  rw [List.all_append, e1]
  simp only [List.all_cons, List.all_nil, Bool.and_true, tru, List.any_cons, e2]
  cases holds g m <;> cases l.all (holds · m) <;> rfl
theorem orC_true {g : Int} {l : List Int} (hg : isLit g = true) (hl : ∀ x ∈ l, isLit x = true) (m : List Bool) :
    allTrue (orC g l) m = (holds g m == l.any (holds · m)) := by
  have e1 : (l.map fun x => [g, -x]).all (tru · m) = (holds g m || !(l.any (holds · m))) := by
    rw [List.all_map, List.not_any_eq_all_not, ← all_pair]
    rw [Bool.eq_iff_iff]; simp only [List.all_eq_true]
    constructor
    · intro h x hx; have := h x hx; simpa [tru, holds_neg m (hl x hx)] using this
    · intro h x hx; have := h x hx; simpa [tru, holds_neg m (hl x hx)] using this
  unfold orC allTrue
  rw [List.all_append, e1]
  simp only [List.all_cons, List.all_nil, Bool.and_true, tru, List.any_cons, holds_neg m hg]
  cases holds g m <;> cases l.any (holds · m) <;> rfl
theorem xorC_true {g a b : Int} (hg : isLit g = true) (ha : isLit a = true) (hb : isLit b = true) (m : List Bool) :
    allTrue (xorC g a b) m = (holds g m == (holds a m != holds b m)) := by
  simp only [xorC, allTrue, tru, List.all_cons, List.all_nil, List.any_cons, List.any_nil, holds_neg m hg, holds_neg m ha, holds_neg m hb]
  cases holds g m <;> cases holds a m <;> cases holds b m <;> rfl
theorem mostC_true {g a b c : Int} (hg : isLit g = true) (ha : isLit a = true) (hb : isLit b = true) (hc : isLit c = true) (m : List Bool) :
    allTrue (mostC g a b c) m = (holds g m == (holds a m && holds b m || holds a m && holds c m || holds b m && holds c m)) := by
  simp only [mostC, allTrue, tru, List.all_cons, List.all_nil, List.any_cons, List.any_nil, holds_neg m hg, holds_neg m ha, holds_neg m hb, holds_neg m hc]
  cases holds g m <;> cases holds a m <;> cases holds b m <;> cases holds c m <;> rfl

/-- a gate's clauses by its kind -/
def gateC (kind : Int) (g : Int) (l : List Int) : List (List Int) :=
  if kind = 1 then andC g l else if kind = 2 then orC g l else if kind = 3 then xorC g (l.getD 0 0) (l.getD 1 0) else mostC g (l.getD 0 0) (l.getD 1 0) (l.getD 2 0)
/-- what a gate says of a model -/
def says (kind : Int) (l : List Int) (m : List Bool) : Bool :=
  if kind = 1 then count l m == l.length else if kind = 2 then decide (0 < count l m) else if kind = 3 then count l m == 1 else decide (2 ≤ count l m)
theorem count_all (l : List Int) (m : List Bool) : (count l m == l.length) = l.all (holds · m) := by
  rw [Bool.eq_iff_iff, beq_iff_eq, List.all_eq_true]
  exact List.countP_eq_length
theorem count_any (l : List Int) (m : List Bool) : decide (0 < count l m) = l.any (holds · m) := by
  rw [Bool.eq_iff_iff, decide_eq_true_iff, List.any_eq_true]
  exact List.countP_pos_iff
theorem gateC_true {kind g : Int} {l : List Int} (hg : isLit g = true) (hl : ∀ x ∈ l, isLit x = true) (h3 : kind = 3 → l.length = 2) (h4 : kind ≠ 1 → kind ≠ 2 → kind ≠ 3 → l.length = 3) (m : List Bool) :
    allTrue (gateC kind g l) m = (holds g m == says kind l m) := by
  unfold gateC says
  by_cases h1 : kind = 1
  · rw [if_pos h1, if_pos h1, andC_true hg hl m, count_all]
  · rw [if_neg h1, if_neg h1]
    by_cases h2 : kind = 2
    · rw [if_pos h2, if_pos h2, orC_true hg hl m, count_any]
    · rw [if_neg h2, if_neg h2]
      by_cases h : kind = 3
      · rw [if_pos h, if_pos h]
        match l, h3 h, hl with
        | [a, b], _, hl =>
          rw [show ([a, b] : List Int).getD 0 0 = a from rfl, show ([a, b] : List Int).getD 1 0 = b from rfl, xorC_true hg (hl a (by simp)) (hl b (by simp)) m]
          simp only [count, List.countP_cons, List.countP_nil]
          cases holds a m <;> cases holds b m <;> simp
      · rw [if_neg h, if_neg h]
        match l, h4 h1 h2 h, hl with
        | [a, b, c], _, hl =>
          rw [show ([a, b, c] : List Int).getD 0 0 = a from rfl, show ([a, b, c] : List Int).getD 1 0 = b from rfl, show ([a, b, c] : List Int).getD 2 0 = c from rfl, mostC_true hg (hl a (by simp)) (hl b (by simp)) (hl c (by simp)) m]
          simp only [count, List.countP_cons, List.countP_nil]
          cases holds a m <;> cases holds b m <;> cases holds c m <;> simp
theorem gateC_lits {kind g : Int} {l : List Int} (hg : isLit g = true) (hl : ∀ x ∈ l, isLit x = true) (h3 : kind = 3 → l.length = 2) (h4 : kind ≠ 1 → kind ≠ 2 → kind ≠ 3 → l.length = 3) :
    ∀ c ∈ gateC kind g l, ∀ x ∈ c, isLit x = true := by
  have hn := hg; rw [← isLit_neg] at hn
  have hln : ∀ x ∈ l, isLit (-x) = true := fun x hx => by rw [isLit_neg]; exact hl x hx
  unfold gateC
  by_cases h1 : kind = 1
  · rw [if_pos h1]; intro c hc x hx
    simp only [andC, List.mem_append, List.mem_map, List.mem_singleton] at hc
    rcases hc with ⟨y, hy, rfl⟩ | rfl
    · simp at hx; rcases hx with rfl | rfl
      · exact hn
      · exact hl _ hy
    · simp at hx; rcases hx with rfl | ⟨y, hy, rfl⟩
      · exact hg
      · exact hln _ hy
  · rw [if_neg h1]
    by_cases h2 : kind = 2
    · rw [if_pos h2]; intro c hc x hx
      simp only [orC, List.mem_append, List.mem_map, List.mem_singleton] at hc
      rcases hc with ⟨y, hy, rfl⟩ | rfl
      · simp at hx; rcases hx with rfl | rfl
        · exact hg
        · exact hln _ hy
      · simp at hx; rcases hx with rfl | hx
        · exact hn
        · exact hl _ hx
    · rw [if_neg h2]
      by_cases h : kind = 3
      · rw [if_pos h]
        match l, h3 h, hl, hln with
        | [a, b], _, hl, hln =>
          have a1 := hl a (by simp); have b1 := hl b (by simp); have a2 := hln a (by simp); have b2 := hln b (by simp)
          intro c hc x hx
          simp [xorC] at hc
          rcases hc with rfl | rfl | rfl | rfl <;> simp at hx <;> rcases hx with rfl | rfl | rfl <;> assumption
      · rw [if_neg h]
        match l, h4 h1 h2 h, hl, hln with
        | [a, b, c], _, hl, hln =>
          have a1 := hl a (by simp); have b1 := hl b (by simp); have c1 := hl c (by simp); have a2 := hln a (by simp); have b2 := hln b (by simp); have c2 := hln c (by simp)
          intro d hd x hx
          simp [mostC] at hd
          rcases hd with rfl | rfl | rfl | rfl | rfl | rfl <;> simp at hx <;> rcases hx with rfl | rfl | rfl <;> assumption
/-- the clauses that let at most one be so -/
def oneC : List Int → List (List Int)
  | [] => []
  | a :: l => (l.filter (fun b => !(a == -b))).map (fun b => norm [-a, -b]) ++ oneC l
theorem holds_append {l : Int} (m k : List Bool) (h : vr l ≤ m.length) : holds l (m ++ k) = holds l m := by
  unfold holds
  cases hl : isLit l
  · rfl
  · have h' := (isLit_iff l).1 hl
    by_cases hn : l < 0
    · rw [vr_of_neg hn] at h
      rw [if_pos hn, if_pos hn, List.getD_eq_getElem?_getD, List.getD_eq_getElem?_getD, List.getElem?_append_left (by omega)]
    · rw [vr_of_pos hn] at h
      rw [if_neg hn, if_neg hn, List.getD_eq_getElem?_getD, List.getD_eq_getElem?_getD, List.getElem?_append_left (by omega)]
theorem count_append {l : List Int} (m k : List Bool) (h : ∀ x ∈ l, vr x ≤ m.length) : count l (m ++ k) = count l m := by
  unfold count
  exact List.countP_congr fun x hx => by rw [holds_append m k (h x hx)]
theorem says_append (kind : Int) {l : List Int} (m k : List Bool) (h : ∀ x ∈ l, vr x ≤ m.length) : says kind l (m ++ k) = says kind l m := by
  unfold says; rw [count_append m k h]
end Go.Proofs.YtgpifbhfnbkgoaaDoor.M

/- lits.Propagate: a round of its last loop, in plain words. -/
import Derived.Test.YtdppmmimemmedaaDoorPropSt
namespace Go.Proofs.YtdppmmimemmedaaDoor.M

theorem occ_zero (vs : List (List Int)) (n p : Nat) : occ vs n 0 p = ((List.range n).filter fun i => hasP (vs[i]?.getD []) p).map (fun i : Nat => (i : Int)) := by
  unfold occ; simp [hasP]
theorem mem_occ (vs : List (List Int)) (n p i : Nat) : (i : Int) ∈ occ vs n 0 p ↔ i < n ∧ hasP (vs[i]?.getD []) p = true := by
  rw [occ_zero, List.mem_map]
  constructor
  · rintro ⟨j, hj, e⟩
    obtain rfl : j = i := by omega
    simpa using hj
  · intro h
    exact ⟨i, by simpa using h, rfl⟩
theorem occ_nodup (vs : List (List Int)) (n p : Nat) : (occ vs n 0 p).Nodup := by
  rw [occ_zero]
  exact List.pairwise_map.2 ((List.nodup_range.filter _).imp fun h e => h (by omega))
theorem occ_get {vs : List (List Int)} {n p s : Nat} {z : Int} (h : (occ vs n 0 p)[s]? = some z) : ∃ i : Nat, z = (i : Int) ∧ i < n ∧ hasP (vs[i]?.getD []) p = true := by
  have hm := List.mem_of_getElem? h
  rw [occ_zero] at hm
  obtain ⟨i, _, rfl⟩ := List.mem_map.1 hm
  have := (mem_occ vs n p i).1 (List.mem_of_getElem? h)
  exact ⟨i, rfl, this⟩
theorem hasP_mem {v : List Int} {y : Int} {p : Nat} (hl : ∀ x ∈ v, isLit x = true) (hy : isLit y = true) (hp : place y = (p : Int)) : hasP v p = true ↔ y ∈ v := by
  unfold hasP
  rw [List.any_eq_true]
  constructor
  · rintro ⟨x, hx, e⟩
    have : place x = place y := by rw [hp]; simpa using e
    rw [← place_inj (hl x hx) hy this]; exact hx
  · intro h; exact ⟨y, h, by simpa using hp⟩
/-- where the rows of in are done with up to s -/
def SS (S : List Int) (y : Int) (row : List Int) (s i : Nat) : List Int := if (i : Int) ∈ row.take s then S ++ [y] else S
def LfP (vs : List (List Int)) (S : Nat → List Int) (lv : List Int) : Prop := lv.length = vs.length ∧ ∀ (i : Nat) (v : List Int), vs[i]? = some v → lv[i]? = some (lf (S i) v)
def SatP (vs : List (List Int)) (S : Nat → List Int) (q : List Int) : Prop := ∀ (i : Nat) (v : List Int), vs[i]? = some v → lf (S i) v ≤ 1 → ∃ x ∈ v, x ∈ q
theorem SS_zero (S : List Int) (y : Int) (row : List Int) : SS S y row 0 = fun _ => S := by funext i; simp [SS]
theorem SS_other {S row : List Int} {y : Int} {s i i0 : Nat} (h : row[s]? = some (i0 : Int)) (hi : i ≠ i0) : SS S y row (s + 1) i = SS S y row s i := by
  unfold SS
  rw [List.take_add_one, h]
  have : ((i : Int) ∈ row.take s ++ (some (i0 : Int)).toList) ↔ (i : Int) ∈ row.take s := by
    simp; omega
  simp only [this]
theorem SS_this {S row : List Int} {y : Int} {s i0 : Nat} (h : row[s]? = some (i0 : Int)) (hn : row.Nodup) : SS S y row s i0 = S ∧ SS S y row (s + 1) i0 = S ++ [y] := by
  constructor
  · unfold SS; rw [if_neg]
    intro hm
    obtain ⟨j, hj, e⟩ := List.getElem_of_mem hm
    have hjs : j < s := by simp at hj; omega
    have hsl : s < row.length := (List.getElem?_eq_some_iff.1 h).1
    have e2 : row[s] = (i0 : Int) := (List.getElem?_eq_some_iff.1 h).2
    have e3 : row[j] = (i0 : Int) := by rw [← e]; simp
    have := List.pairwise_iff_getElem.1 hn j s (by omega) hsl hjs
    exact this (e3.trans e2.symm)
  · unfold SS; rw [if_pos]
    rw [List.take_add_one, h]; simp
/-- left[i]-- -/
theorem LfP.step {vs : List (List Int)} {S row lv : List Int} {y : Int} {s i0 : Nat} {v : List Int} (h : LfP vs (SS S y row s) lv) (hr : row[s]? = some (i0 : Int)) (hn : row.Nodup) (hv : vs[i0]? = some v) (hnd : v.Nodup) (hm : -y ∈ v) (hy : y ∉ S) :
    lv[i0]? = some (lf S v) ∧ LfP vs (SS S y row (s + 1)) (lv.set i0 (lf S v - 1)) ∧ lf (SS S y row (s + 1) i0) v = lf S v - 1 := by
  obtain ⟨t1, t2⟩ := SS_this (S := S) (y := y) hr hn
  have e1 := h.2 i0 v hv
  rw [t1] at e1
  have e2 : lf (SS S y row (s + 1) i0) v = lf S v - 1 := by rw [t2]; exact lf_snoc hnd hm hy
  refine ⟨e1, ⟨by simp [h.1], fun i u hu => ?_⟩, e2⟩
  by_cases he : i = i0
  · subst he
    rw [hv] at hu; cases hu
    rw [List.getElem?_set_self (by rw [h.1]; exact (List.getElem?_eq_some_iff.1 hv).1), e2]
  · rw [List.getElem?_set_ne (fun e => he e.symm), SS_other hr he]; exact h.2 i u hu
theorem SatP.step {vs : List (List Int)} {S row q q' : List Int} {y : Int} {s i0 : Nat} (h : SatP vs (SS S y row s) q) (hr : row[s]? = some (i0 : Int)) (hq : ∀ x ∈ q, x ∈ q') (hi : ∀ v, vs[i0]? = some v → lf (SS S y row (s + 1) i0) v ≤ 1 → ∃ x ∈ v, x ∈ q') : SatP vs (SS S y row (s + 1)) q' := by
  intro i v hv hle
  by_cases he : i = i0
  · subst he; exact hi v hv hle
  · rw [SS_other hr he] at hle
    obtain ⟨x, hx, hxq⟩ := h i v hv hle
    exact ⟨x, hx, hq x hxq⟩
/-- a whole row is done with -/
theorem SS_end {vs : List (List Int)} {S : List Int} {y : Int} {p : Nat} (hl : ∀ v ∈ vs, ∀ x ∈ v, isLit x = true) (hy : isLit (-y) = true) (hp : place (-y) = (p : Int)) {i : Nat} {v : List Int} (hv : vs[i]? = some v) :
    lf (SS S y (occ vs vs.length 0 p) (occ vs vs.length 0 p).length i) v = lf (S ++ [y]) v := by
  unfold SS
  rw [List.take_length]
  by_cases h : (i : Int) ∈ occ vs vs.length 0 p
  · rw [if_pos h]
  · rw [if_neg h, lf_snoc_not]
    intro hm
    refine h ((mem_occ vs vs.length p i).2 ⟨(List.getElem?_eq_some_iff.1 hv).1, ?_⟩)
    rw [hv]; exact (hasP_mem (hl v (List.mem_of_getElem? hv)) hy hp).2 hm
end Go.Proofs.YtdppmmimemmedaaDoor.M

/- slices.SortFunc with a method value, on a row of one-cell values that the call owns. No program in sight. -/
import Derived.Test.YtnmcajinaigcjaaGreatDoorMAll
import Derived.Laws.AppendOwn
namespace Go.Proofs.YtnmcajinaigcjaaGreatDoor
open Go Go.Shelf Go.RowKit Go.Lib Go.Sort
namespace Ms
variable {P : Program} {ρ : Ren} {α : Type} [Inhabited α]

theorem swWorld_grownBy (enc : α → Value) {w : World} {g n : Nat} {os : Array Obj} (d : Array α) : w.grownBy (sortWorld enc w g 0 n d os) (some g) := by
  unfold sortWorld
  refine ⟨rfl, rfl, rfl, by simp [putRow, mapBlock, Sort.ahead, grow], fun k hk hne => ?_⟩
  rw [heap_grow_old _ _ (by simpa [putRow, mapBlock, Sort.ahead] using hk)]
  have : g ≠ k := fun e => hne (by rw [e])
  simp [putRow, mapBlock, Sort.ahead, Array.getElem?_modify, this]
theorem swWorld_heap (enc : α → Value) {w : World} {g n : Nat} {os : Array Obj} {cur : Array Value} {e : TypeId} {fr : Nat × Nat} (d : Array α) (hb : w.heap[g]? = some (.cells cur e fr)) :
    (sortWorld enc w g 0 n d os).heap[g]? = some (.cells (putCells enc 0 d cur) e fr) := by
  have hg : g < w.heap.size := (Array.getElem?_eq_some_iff.1 hb).1
  unfold sortWorld
  rw [heap_grow_old _ _ (by simpa [putRow, mapBlock, Sort.ahead] using hg)]
  simp [putRow, mapBlock, Sort.ahead, Array.getElem?_modify, hb, onCells]
theorem take_put (enc : α → Value) (cur : Array Value) (ts : List α) (h : ts.length ≤ cur.size) : (putCells enc 0 ts.toArray cur).toList.take ts.length = ts.map enc := by
  apply List.ext_getElem?
  intro j
  by_cases hj : j < ts.length
  · rw [List.getElem?_take_of_lt hj, Array.getElem?_toList]
    simp [putCells, hj, show j < cur.size by omega]
  · rw [List.getElem?_take_eq_none (by omega), List.getElem?_eq_none (by simp; omega)]
theorem holds_own (enc : α → Value) {w : World} {g : Nat} {cur : Array Value} {e : TypeId} {ss : List α} (hb : w.heap[g]? = some (.cells cur e (0, 0))) (ht : cur.toList.take ss.length = ss.map enc) : Holds enc w g 0 ss.toArray := by
  intro j hj
  have hj' : j < ss.length := by simpa using hj
  refine ⟨?_, by simp [World.frozen?, hb]⟩
  have h1 : (cur.toList.take ss.length)[j]? = (ss.map enc)[j]? := by rw [ht]
  rw [List.getElem?_take_of_lt hj'] at h1
  simp only [World.cell?, hb, Nat.zero_add]
  simp only [Option.isSome_none, Bool.false_eq_true, if_false]
  rw [← Array.getElem?_toList, h1]
  simp [hj']
/-- sorted, in the same row, all else as it was -/
theorem sort_own (L : SlLaysF.n6 P ρ) (enc : α → Value) (h1 : OneCell enc) (cf : α → α → Int) (hO : SWO (ltOf cf)) (g : Nat) (rv : Value) {e : TypeId} {base blk c : Nat} (xs : List α) (w : World)
    (hx : w.ownsRow base e 1 (.slice (some ⟨blk, 0, none⟩) xs.length c) xs.length (xs.map enc))
    (eg : ∀ args w, (callFunc g args).run P w = .ok (.enter g args) w) (hcmp : CmpM P g rv enc cf blk 0 xs.length w) (hsz : xs.length < 4611686018427387904) :
    Calls P (ρ.f 6) #[.slice (some ⟨blk, 0, none⟩) xs.length c, .func (.func g) #[rv] #[]] w fun e' w' =>
      e' = .returned (.tuple #[]) ∧ ∃ ys : List α, ys.Perm xs ∧ ys.Pairwise (fun x y => ltOf cf y x = false) ∧ w'.ownsRow base e 1 (.slice (some ⟨blk, 0, none⟩) xs.length c) xs.length (ys.map enc) ∧ w.grownBy w' (some blk) := by
  obtain ⟨hl, ⟨e0, _⟩ | ⟨g', cap', cur, e0, hb, hg, hc1, hc2, hc3, hc4⟩⟩ := hx
  · cases e0
  injection e0 with e1 e2 e3
  injection e1 with e1
  injection e1 with e1
  subst e1 e3
  rw [Nat.mul_one] at hc4
  have hH := holds_own enc hg hc4
  have hlt : blk < w.heap.size := (Array.getElem?_eq_some_iff.1 hg).1
  have h := sortFunc_m (P := P) (ρ := ρ) L enc h1 cf hO g rv blk 0 c xs.toArray w eg (by simpa using hcmp) hH hlt (by simpa using hsz)
  simp only [List.size_toArray] at h
  refine h.mono ?_
  rintro e' w' ⟨rfl, d', n, os, ⟨p1, p2, p3⟩, hs, rfl⟩
  have hdl : d'.toList.length = xs.length := by simpa using p1
  refine ⟨rfl, d'.toList, ?_, ?_, ⟨by simp [p1], .inr ⟨blk, c, _, rfl, hb, swWorld_heap enc d' hg, hc1, hc2, by simp [putCells, hc3], ?_⟩⟩, swWorld_grownBy enc d'⟩
  · have e1 : d'.extract 0 xs.length = d' := by apply Array.ext_getElem?; intro i; simp [Array.getElem?_extract]; intro hi; simp at p1; omega
    have e2 : (xs.toArray).extract 0 xs.length = xs.toArray := by simp
    rw [e1, e2] at p3
    exact p3
  · rw [List.pairwise_iff_getElem]
    intro i j hi hj hij
    have := hs i j (Nat.zero_le _) hij (by simp at p1; simpa [p1] using hj)
    rw [getElem!_pos d' j (by simpa using hj), getElem!_pos d' i (by simpa using hi)] at this
    simpa using this
  · rw [Nat.mul_one]
    have := take_put enc cur d'.toList (by simp at hdl ⊢; omega)
    rw [hdl] at this
    simpa using this
end Ms
end Go.Proofs.YtnmcajinaigcjaaGreatDoor

/- Contracts of rules.Holds, rules.fits. -/
import Derived.Test.YthbchbpjfdpkjaaGreatDoorQHolds
namespace Go.Proofs.YthbchbpjfdpkjaaGreatDoor
open Go.RowKit
open Q (It Ver Tm Sp Rc Dm)

/-- records and what is chosen, as they came in -/
structure RIn (w : World) (a b : Option Addr) (l : List Rc) (ch : List Bool) : Prop where
  recs : Sl RRc 13 w a l
  bools : Bools w b ch
theorem RIn.below {w w' : World} {a b : Option Addr} {l : List Rc} {ch : List Bool} (h : RIn w a b l ch) (hb : Below w.heap.size w w') : RIn w' a b l ch := ⟨h.recs.below stays_RRc hb, h.bools.below hb⟩
theorem cell_lt {w : World} {b i : Nat} {v : Value} (h : w.cell? ⟨b, i, none⟩ = some v) : b < w.heap.size := by
  rcases Nat.lt_or_ge b w.heap.size with h' | h'
  · exact h'
  · unfold World.cell? at h; rw [Array.getElem?_eq_none (by simpa using h')] at h; simp at h
theorem cell_old {w : World} {b i : Nat} {v : Value} (h : w.cell? ⟨b, i, none⟩ = some v) (o : Obj) : (w.alloc o).cell? ⟨b, i, none⟩ = some v :=
  (((Below.refl w.heap.size w).alloc (Nat.le_refl _) o).cell (p := ⟨b, i, none⟩) (cell_lt h)).trans h
theorem cell_new {w : World} {cs : Array Value} {t n i : Nat} {v : Value} (hn : w.heap.size = n) (h : cs[i]? = some v) : (w.alloc (.cells cs t)).cell? ⟨n, i, none⟩ = some v := by
  subst hn; rw [cell_of_cells (heap_alloc_new w _)]; exact h
end Go.Proofs.YthbchbpjfdpkjaaGreatDoor

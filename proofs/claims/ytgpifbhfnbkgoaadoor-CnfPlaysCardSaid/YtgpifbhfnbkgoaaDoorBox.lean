/- One cell of its own. -/
import Derived.Test.YtgpifbhfnbkgoaaDoorFm
namespace Go.Proofs.YtgpifbhfnbkgoaaDoor
open Go.RowKit Go.Shelf
variable {X : Nat → Prop}

/-- a box that the closure reads -/
def Box (w : World) (q : Nat) (v : Value) (t : TypeId) : Prop := w.heap[q]? = some (.cells #[v] t (0, 0))
theorem Box.keep {w w' : World} {base q : Nat} {v : Value} {t : TypeId} (h : Box w q v t) (hk : Kp X base w w') (h1 : t ≠ 73) (h2 : t ≠ 75) : Box w' q v t :=
  (hk.block q (Array.getElem?_eq_some_iff.1 h).1 (.inr (.inr ⟨_, t, _, h, h1, h2⟩))).trans h
theorem Box.cell {w : World} {q : Nat} {v : Value} {t : TypeId} (h : Box w q v t) : w.cell? ⟨q, 0, none⟩ = some v := by rw [cell_of_cells h]; rfl
theorem Box.lt {w : World} {q : Nat} {v : Value} {t : TypeId} (h : Box w q v t) : q < w.heap.size := (Array.getElem?_eq_some_iff.1 h).1
theorem Box.below {w w' : World} {q : Nat} {v : Value} {t : TypeId} (h : Box w q v t) (hb : Below w.heap.size w w') : Box w' q v t := (hb.block q h.lt).trans h
end Go.Proofs.YtgpifbhfnbkgoaaDoor

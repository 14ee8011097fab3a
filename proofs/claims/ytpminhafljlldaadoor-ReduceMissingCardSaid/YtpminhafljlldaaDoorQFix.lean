/- Readers that read in one world: for rows that grow while what they hold lies still. -/
import Derived.Test.YtpminhafljlldaaDoorQStep
namespace Go.Proofs.YtpminhafljlldaaDoor
open Go.RowKit

/-- a reader that reads in one world -/
def fixR {α : Type} (R : Rd α) (w0 : World) : Rd α := fun _ us x => R w0 us x
theorem stays_fixR {α : Type} (R : Rd α) (w0 : World) : Stays (fixR R w0) := fun _ _ _ _ _ h => h
theorem Sl.fix {α : Type} {R : Rd α} {k : Nat} {w0 W : World} {a : Option Addr} {xs : List α} (h : Sl R k w0 a xs) (hb : Below w0.heap.size w0 W) : Sl (fixR R w0) k W a xs := by
  refine ⟨fun h0 => ?_, h.len⟩
  obtain ⟨b, off, e, hlt, hc⟩ := h.addr h0
  refine ⟨b, off, e, Nat.lt_of_lt_of_le hlt hb.size, fun i x hx => ?_⟩
  obtain ⟨us, u1, u2, u3⟩ := hc i x hx
  exact ⟨us, u1, fun j hj => (hb.cell (p := ⟨b, off + i * k + j, none⟩) hlt).trans (u2 j hj), u3⟩
theorem Flat.unfix {α : Type} {R : Rd α} {k : Nat} {w0 w w' : World} {xs : List α} {cells : List Value} (h : Flat (fixR R w0) k w xs cells) (hR : Stays R) (hb : Below w0.heap.size w0 w') : Flat R k w' xs cells := h.mono fun _ _ _ hx => hR _ _ _ _ hb hx
theorem Sl.growE {α : Type} {R : Rd α} {k : Nat} {w0 W w7 : World} {D E : Nat} {x : α} (hg : W.grownBy w7 (Value.slice (some ⟨E, 0, none⟩) 0 0).ownBlock) (hne : D ≠ E) (h : Sl (fixR R w0) k W (some ⟨D, 0, none⟩) [x]) : Sl (fixR R w0) k w7 (some ⟨D, 0, none⟩) [x] :=
  h.grown hg (fun _ _ h => h) fun ad e _ => by cases e; simp [Value.ownBlock]; exact hne
end Go.Proofs.YtpminhafljlldaaDoor

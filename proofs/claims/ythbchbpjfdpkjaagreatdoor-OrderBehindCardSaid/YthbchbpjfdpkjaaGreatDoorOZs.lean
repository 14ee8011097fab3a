/- A list of ints that came in. -/
import Derived.Test.YthbchbpjfdpkjaaGreatDoorOC
import Derived.Test.YthbchbpjfdpkjaaGreatDoorQOpen
namespace Go.Proofs.YthbchbpjfdpkjaaGreatDoor
open Go.ChangeShapes Go.WideShapes Go.RowKit

/-- a slice of ints reads as zs -/
structure InZ (w : World) (a : Option Addr) (zs : List Int) : Prop where
  addr : 0 < zs.length → ∃ b off, a = some ⟨b, off, none⟩ ∧ b < w.heap.size ∧ ∀ i z, zs[i]? = some z → w.cell? ⟨b, off + i, none⟩ = some (.int .i64 z)
theorem InZ.below {w w' : World} {a : Option Addr} {zs : List Int} (h : InZ w a zs) (hb : Below w.heap.size w w') : InZ w' a zs := by
  refine ⟨fun h0 => ?_⟩
  obtain ⟨b, off, e, hlt, hc⟩ := h.addr h0
  exact ⟨b, off, e, Nat.lt_of_lt_of_le hlt hb.size, fun i z hz => (hb.cell (p := ⟨b, off + i, none⟩) hlt).trans (hc i z hz)⟩
theorem InZ.sl {w : World} {a : Option Addr} {zs : List Int} (h : InZ w a zs) (hl : zs.length ≤ 5864062014805) : Sl RJ 1 w a zs := by
  refine ⟨fun h0 => ?_, hl⟩
  obtain ⟨b, off, e, hlt, hc⟩ := h.addr h0
  refine ⟨b, off, e, hlt, fun i z hz => ⟨[.int .i64 z], rfl, fun j hj => ?_, rfl⟩⟩
  obtain rfl : j = 0 := by omega
  simpa using hc i z hz
theorem q_ints {H : Type} {enc : TypeId × Value → H} {w : World} {fuel : Nat} {cs : List Value} {d : DataW H} {ps : List MemPlace} (h : DataW.trod enc Tryz.prog w 0 (fun _ => true) true fuel 24 cs = some (d, ps)) (hr : InReach Tryz.prog 24 d) (hl : Lows w ps) : ∃ (a : Option Addr) (c : Nat) (zs : List Int), cs = [.slice a zs.length c] ∧ (zs.length ≤ c ∧ (a = none → c = 0)) ∧ InZ w a zs := by
  obtain ⟨xs, a, c, h1, h2, h3, h4, _, h6⟩ := open_RSl (R := RJ) (k := 1) (by' := 8) Tryz.underlying24 (by kernel_rfl) (by decide) (by kernel_rfl) (fun _ _ _ _ h _ _ => (by obtain ⟨n, rfl, _⟩ := q_int h; exact ⟨n, rfl⟩)) h hr hl
  refine ⟨a, c, xs, h1, ⟨h3, h2⟩, ⟨fun h0 => ?_⟩⟩
  obtain ⟨b, off, e, hlt, hc⟩ := h6 h0
  refine ⟨b, off, e, hlt, fun i z hz => ?_⟩
  obtain ⟨us, u1, u2, u3⟩ := hc i z hz
  have c0 := u2 0 (by omega)
  rw [u3] at c0
  simpa using c0
end Go.Proofs.YthbchbpjfdpkjaaGreatDoor

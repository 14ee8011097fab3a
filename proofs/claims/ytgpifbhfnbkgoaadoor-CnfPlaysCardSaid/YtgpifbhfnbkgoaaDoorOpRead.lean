/- A list of operations that came in. -/
import Derived.Test.YtgpifbhfnbkgoaaDoorGatesLaw
import Derived.Test.YtgpifbhfnbkgoaaDoorReader
import Derived.OpenShut
namespace Go.Proofs.YtgpifbhfnbkgoaaDoor
open Go.ChangeShapes Go.WideShapes Go.RowKit

def RInt (_ : World) (us : List Value) (z : Int) : Prop := us = [.int .i64 z] ∧ I64 z
/-- an operation: kind, number, literals -/
def ROp (w : World) (us : List Value) (o : Int × Int × List Int) : Prop := ∃ us3, us = .int .i64 o.1 :: .int .i64 o.2.1 :: us3 ∧ RSl RInt 1 8 w us3 o.2.2
theorem list3 {α : Type} {l : List α} (h : l.length = 3) : ∃ x y z, l = [x, y, z] := by
  match l, h with
  | [x, y, z], _ => exact ⟨x, y, z, rfl⟩
section
variable {H : Type} {enc : TypeId × Value → H} {w : World}
theorem rint_open {fuel : Nat} {cs : List Value} {d : DataW H} {ps : List MemPlace} (h : DataW.trod enc Tryd.prog w 0 (fun _ => true) true fuel 3 cs = some (d, ps)) : ∃ x, RInt w cs x := by
  obtain ⟨n, rfl, _, hw⟩ := DataW.trod_int Tryd.underlying3 h
  have := bounds_i64 hw
  exact ⟨n, rfl, by omega, by omega⟩
theorem rints_open {fuel : Nat} {cs : List Value} {d : DataW H} {ps : List MemPlace} (h : DataW.trod enc Tryd.prog w 0 (fun _ => true) true fuel 30 cs = some (d, ps)) (hr : InReach Tryd.prog 30 d) (hl : Lows w ps) : ∃ xs, RSl RInt 1 8 w cs xs :=
  open_RSl Tryd.underlying30 (by kernel_rfl) (by decide) (by kernel_rfl) (fun _ _ _ _ h _ _ => rint_open h) h hr hl
theorem rop_open {fuel : Nat} {cs : List Value} {d : DataW H} {ps : List MemPlace} (h : DataW.trod enc Tryd.prog w 0 (fun _ => true) true fuel 32 cs = some (d, ps)) (hr : InReach Tryd.prog 32 d) (hl : Lows w ps) : ∃ x, ROp w cs x := by
  obtain ⟨hcl, n, hf⟩ := open_fields Tryd.underlying32 h hr hl
  have hc3 : cs.length = 3 := hcl.trans (by kernel_rfl)
  clear hcl
  obtain ⟨v0, v1, v2, rfl⟩ := list3 hc3
  obtain ⟨d0, p0, t0, _, _⟩ := hf 0 3 0 1 _ rfl rfl rfl (by kernel_rfl)
  obtain ⟨d1, p1, t1, _, _⟩ := hf 1 3 1 1 _ rfl rfl rfl (by kernel_rfl)
  obtain ⟨d2, p2, t2, r2, l2⟩ := hf 2 30 2 1 _ rfl rfl rfl (by kernel_rfl)
  obtain ⟨k, e0, _⟩ := rint_open t0
  obtain ⟨m, e1, _⟩ := rint_open t1
  obtain ⟨zs, hz⟩ := rints_open t2 r2 l2
  simp at e0 e1 hz
  subst e0 e1
  exact ⟨(k, m, zs), [v2], rfl, hz⟩
theorem RSl.ints {vs : List Value} {zs : List Int} (h : RSl RInt 1 8 w vs zs) : ∃ a c, vs = [.slice a zs.length c] ∧ Ints w a zs ∧ zs.length ≤ c ∧ (a = none → c = 0) ∧ ∀ ad, eff a zs = some ad → ad.block < w.heap.size := by
  obtain ⟨a, c, h1, h2, h3, h4, _, h6⟩ := h
  refine ⟨a, c, h1, ⟨fun h0 => ?_, fun z hz => ?_, by unfold reachBytes at h4; omega⟩, h3, h2, fun ad e => ?_⟩
  · obtain ⟨b, off, e, hlt, hc⟩ := h6 h0
    refine ⟨b, off, e, hlt, fun i z hz => ?_⟩
    obtain ⟨us, _, u2, u3, _⟩ := hc i z hz
    have := u2 0 (by omega)
    rw [u3] at this
    simpa using this
  · obtain ⟨i, hi, rfl⟩ := List.getElem_of_mem hz
    obtain ⟨b, off, e, hlt, hc⟩ := h6 (by omega)
    obtain ⟨us, _, _, _, u4⟩ := hc i _ (List.getElem?_eq_getElem hi)
    exact u4
  · have h0 : 0 < zs.length := by
      rcases Nat.eq_zero_or_pos zs.length with h' | h'
      · rw [List.eq_nil_of_length_eq_zero h'] at e; cases e
      · exact h'
    rw [eff_pos h0] at e
    obtain ⟨b, off, e2, hlt, _⟩ := h6 h0
    rw [e2] at e; cases e; exact hlt
theorem ops_open {fuel : Nat} {a : Option Addr} {n c : Nat} {d : DataW H} {ps : List MemPlace} (h : DataW.trod enc Tryd.prog w 0 (fun _ => true) true fuel 22 [.slice a n c] = some (d, ps)) (hr : InReach Tryd.prog 22 d) (hl : Lows w ps) :
    ∃ os : List (Int × Int × List Int), os.length = n ∧ Ops w a os := by
  obtain ⟨os, a', c', h1, h2, h3, h4, _, h6⟩ := open_RSl (R := ROp) (k := 3) (by' := 40) Tryd.underlying22 (by kernel_rfl) (by decide) (by kernel_rfl) (fun _ _ _ _ h r l => rop_open h r l) h hr hl
  simp at h1
  obtain ⟨rfl, rfl, rfl⟩ := h1
  refine ⟨os, rfl, fun h0 => ?_, by unfold reachBytes at h4; omega⟩
  obtain ⟨b, off, e, hlt, hc⟩ := h6 h0
  refine ⟨b, off, e, hlt, fun i o hi => ?_⟩
  obtain ⟨us, _, u2, us3, u3, u4⟩ := hc i o hi
  obtain ⟨la, lc, rfl, z1, z2, z3, z4⟩ := u4.ints
  have c0 := u2 0 (by omega)
  have c1 := u2 1 (by omega)
  have c2 := u2 2 (by omega)
  rw [u3] at c0 c1 c2
  exact ⟨by simpa using c0, by simpa using c1, la, lc, by simpa using c2, z1, z2, z3, z4⟩
end
end Go.Proofs.YtgpifbhfnbkgoaaDoor

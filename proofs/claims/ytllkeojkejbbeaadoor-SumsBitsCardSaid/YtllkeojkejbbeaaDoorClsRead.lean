/- Slices of ints, bools and clauses that came in. -/
import Derived.Test.YtllkeojkejbbeaaDoorRead
import Derived.Test.YtllkeojkejbbeaaDoorReader
import Derived.OpenShut
namespace Go.Proofs.YtllkeojkejbbeaaDoor
open Go.ChangeShapes Go.WideShapes Go.RowKit

def RI (_ : World) (us : List Value) (z : Int) : Prop := us = [.int .i64 z] ∧ I64 z
def RB (_ : World) (us : List Value) (z : Bool) : Prop := us = [.bool z]
section
variable {H : Type} {enc : TypeId × Value → H} {w : World}
theorem ri_open {fuel : Nat} {cs : List Value} {d : DataW H} {ps : List MemPlace} (h : DataW.trod enc Tryd.prog w 0 (fun _ => true) true fuel 3 cs = some (d, ps)) : ∃ x, RI w cs x := by
  obtain ⟨n, rfl, _, hw⟩ := DataW.trod_int Tryd.underlying3 h
  have := bounds_i64 hw
  exact ⟨n, rfl, by omega, by omega⟩
theorem rb_open {fuel : Nat} {cs : List Value} {d : DataW H} {ps : List MemPlace} (h : DataW.trod enc Tryd.prog w 0 (fun _ => true) true fuel 4 cs = some (d, ps)) : ∃ x, RB w cs x := by
  obtain ⟨n, rfl, _⟩ := DataW.trod_bool Tryd.underlying4 h
  exact ⟨n, rfl⟩
theorem RSl.toInts {vs : List Value} {zs : List Int} (h : RSl RI 1 8 w vs zs) : ∃ a c, vs = [.slice a zs.length c] ∧ Ints w a zs ∧ zs.length ≤ c ∧ (a = none → c = 0) := by
  obtain ⟨a, c, h1, h2, h3, h4, _, h6⟩ := h
  refine ⟨a, c, h1, ⟨fun h0 => ?_, fun z hz => ?_, by unfold reachBytes at h4; omega⟩, h3, h2⟩
  · obtain ⟨b, off, e, hlt, hc⟩ := h6 h0
    refine ⟨b, off, e, hlt, fun i z hz => ?_⟩
    obtain ⟨us, _, u2, u3, _⟩ := hc i z hz
    have := u2 0 (by omega)
    rw [u3] at this
    simpa using this
  · obtain ⟨i, hi, rfl⟩ := List.getElem_of_mem hz
    obtain ⟨b, off, e, hlt, hc⟩ := h6 (by omega)
    obtain ⟨us, _, _, _, u4⟩ := hc i _ (List.getElem?_eq_getElem hi)
    exact u4
theorem ints_open {fuel : Nat} {a : Option Addr} {n c : Nat} {d : DataW H} {ps : List MemPlace} (h : DataW.trod enc Tryd.prog w 0 (fun _ => true) true fuel 30 [.slice a n c] = some (d, ps)) (hr : InReach Tryd.prog 30 d) (hl : Lows w ps) :
    ∃ zs : List Int, zs.length = n ∧ Ints w a zs ∧ zs.length ≤ c ∧ (a = none → c = 0) := by
  obtain ⟨xs, hx⟩ := open_RSl (R := RI) (k := 1) (by' := 8) Tryd.underlying30 (by kernel_rfl) (by decide) (by kernel_rfl) (fun _ _ _ _ h _ _ => ri_open h) h hr hl
  obtain ⟨a', c', e, r⟩ := hx.toInts
  simp at e
  obtain ⟨rfl, rfl, rfl⟩ := e
  exact ⟨xs, rfl, r⟩
theorem clause_open {fuel : Nat} {a : Option Addr} {n c : Nat} {d : DataW H} {ps : List MemPlace} (h : DataW.trod enc Tryd.prog w 0 (fun _ => true) true fuel 83 [.slice a n c] = some (d, ps)) (hr : InReach Tryd.prog 83 d) (hl : Lows w ps) :
    ∃ zs : List Int, zs.length = n ∧ Ints w a zs ∧ zs.length ≤ c ∧ (a = none → c = 0) := by
  obtain ⟨xs, hx⟩ := open_RSl (R := RI) (k := 1) (by' := 8) Tryd.underlying83 (by kernel_rfl) (by decide) (by kernel_rfl) (fun _ _ _ _ h _ _ => ri_open h) h hr hl
  obtain ⟨a', c', e, r⟩ := hx.toInts
  simp at e
  obtain ⟨rfl, rfl, rfl⟩ := e
  exact ⟨xs, rfl, r⟩
theorem bools_open {fuel : Nat} {a : Option Addr} {n c : Nat} {d : DataW H} {ps : List MemPlace} (h : DataW.trod enc Tryd.prog w 0 (fun _ => true) true fuel 54 [.slice a n c] = some (d, ps)) (hr : InReach Tryd.prog 54 d) (hl : Lows w ps) :
    ∃ zs : List Bool, zs.length = n ∧ Bools w a zs ∧ zs.length ≤ c ∧ (a = none → c = 0) := by
  obtain ⟨xs, a', c', e, h2, h3, h4, _, h6⟩ := open_RSl (R := RB) (k := 1) (by' := 1) Tryd.underlying54 (by kernel_rfl) (by decide) (by kernel_rfl) (fun _ _ _ _ h _ _ => rb_open h) h hr hl
  simp at e
  obtain ⟨rfl, rfl, rfl⟩ := e
  refine ⟨xs, rfl, ⟨fun h0 => ?_, by unfold reachBytes at h4; omega⟩, h3, h2⟩
  obtain ⟨b, off, e, hlt, hc⟩ := h6 h0
  refine ⟨b, off, e, hlt, fun i z hz => ?_⟩
  obtain ⟨us, _, u2, u3⟩ := hc i z hz
  have := u2 0 (by omega)
  rw [u3] at this
  simpa using this
theorem clauses_open {fuel : Nat} {a : Option Addr} {n c : Nat} {d : DataW H} {ps : List MemPlace} (h : DataW.trod enc Tryd.prog w 0 (fun _ => true) true fuel 27 [.slice a n c] = some (d, ps)) (hr : InReach Tryd.prog 27 d) (hl : Lows w ps) :
    ∃ cs : List (List Int), cs.length = n ∧ Cls w a cs ∧ cs.length ≤ c ∧ (a = none → c = 0) := by
  obtain ⟨cs, a', c', e, h2, h3, h4, _, h6⟩ := open_RSl (R := RSl RI 1 8) (k := 1) (by' := 24) Tryd.underlying27 (by kernel_rfl) (by decide) (by kernel_rfl) (fun _ _ _ _ h r l => open_RSl (R := RI) (k := 1) (by' := 8) Tryd.underlying83 (by kernel_rfl) (by decide) (by kernel_rfl) (fun _ _ _ _ h _ _ => ri_open h) h r l) h hr hl
  simp at e
  obtain ⟨rfl, rfl, rfl⟩ := e
  refine ⟨cs, rfl, ⟨fun h0 => ?_, by unfold reachBytes at h4; omega⟩, h3, h2⟩
  obtain ⟨b, off, e, hlt, hc⟩ := h6 h0
  refine ⟨b, off, e, hlt, fun i z hz => ?_⟩
  obtain ⟨us, _, u2, u3⟩ := hc i z hz
  obtain ⟨la, lc, rfl, z1, z2, z3⟩ := u3.toInts
  have := u2 0 (by omega)
  exact ⟨la, lc, by simpa using this, z1⟩
end
end Go.Proofs.YtllkeojkejbbeaaDoor

/- Weighted literals that came in. -/
import Derived.Test.YtllkeojkejbbeaaDoorClsRead
import Derived.Test.YtllkeojkejbbeaaDoorSBound
namespace Go.Proofs.YtllkeojkejbbeaaDoor
open Go.ChangeShapes Go.WideShapes Go.RowKit

def RW (_ : World) (us : List Value) (t : M.Wt) : Prop := us = [.int .i64 t.1, .int .i64 t.2] ∧ I64 t.1 ∧ I64 t.2
section
variable {H : Type} {enc : TypeId × Value → H} {w : World}
theorem rw_open {fuel : Nat} {cs : List Value} {d : DataW H} {ps : List MemPlace} (h : DataW.trod enc Tryd.prog w 0 (fun _ => true) true fuel 57 cs = some (d, ps)) (hr : InReach Tryd.prog 57 d) (hl : Lows w ps) : ∃ x, RW w cs x := by
  obtain ⟨hcl, n, hf⟩ := open_fields Tryd.underlying57 h hr hl
  have hc : cs.length = 2 := hcl.trans (by kernel_rfl)
  clear hcl
  obtain ⟨v0, v1, rfl⟩ : ∃ x y, cs = [x, y] := by
    match cs, hc with
    | [x, y], _ => exact ⟨x, y, rfl⟩
  obtain ⟨d0, p0, t0, _, _⟩ := hf 0 3 0 1 _ rfl rfl rfl (by kernel_rfl)
  obtain ⟨d1, p1, t1, _, _⟩ := hf 1 3 1 1 _ rfl rfl rfl (by kernel_rfl)
  obtain ⟨k, e0, z0⟩ := ri_open t0
  obtain ⟨m, e1, z1⟩ := ri_open t1
  simp at e0 e1
  subst e0 e1
  exact ⟨(k, m), rfl, z0, z1⟩
theorem wts_open {fuel : Nat} {a : Option Addr} {n c : Nat} {d : DataW H} {ps : List MemPlace} (h : DataW.trod enc Tryd.prog w 0 (fun _ => true) true fuel 55 [.slice a n c] = some (d, ps)) (hr : InReach Tryd.prog 55 d) (hl : Lows w ps) :
    ∃ ts : List M.Wt, ts.length = n ∧ Wts w a ts ∧ ts.length ≤ c ∧ (a = none → c = 0) := by
  obtain ⟨ts, a', c', e, h2, h3, h4, _, h6⟩ := open_RSl (R := RW) (k := 2) (by' := 16) Tryd.underlying55 (by kernel_rfl) (by decide) (by kernel_rfl) (fun _ _ _ _ h r l => rw_open h r l) h hr hl
  simp at e
  obtain ⟨rfl, rfl, rfl⟩ := e
  refine ⟨ts, rfl, ⟨fun h0 => ?_, fun t ht => ?_, by unfold reachBytes at h4; omega⟩, h3, h2⟩
  · obtain ⟨b, off, e, hlt, hc⟩ := h6 h0
    refine ⟨b, off, e, hlt, fun i t ht => ?_⟩
    obtain ⟨us, _, u2, u3, _⟩ := hc i t ht
    have e0 := u2 0 (by omega)
    have e1 := u2 1 (by omega)
    rw [u3] at e0 e1
    exact ⟨by simpa using e0, by simpa using e1⟩
  · obtain ⟨i, hi, rfl⟩ := List.getElem_of_mem ht
    obtain ⟨b, off, e, hlt, hc⟩ := h6 (by omega)
    obtain ⟨us, _, _, _, u4⟩ := hc i _ (List.getElem?_eq_getElem hi)
    exact u4
end
end Go.Proofs.YtllkeojkejbbeaaDoor

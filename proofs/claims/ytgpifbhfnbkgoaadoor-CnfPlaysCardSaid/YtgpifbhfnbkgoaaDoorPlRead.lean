/- A list of operations that came in, their numbers told. -/
import Derived.Test.YtgpifbhfnbkgoaaDoorOpRead
namespace Go.Proofs.YtgpifbhfnbkgoaaDoor
open Go.ChangeShapes Go.WideShapes Go.RowKit

def ROp2 (w : World) (us : List Value) (o : Int × Int × List Int) : Prop := ROp w us o ∧ I64 o.2.1
def OpsI (w : World) (a : Option Addr) (os : List (Int × Int × List Int)) : Prop := Ops w a os ∧ ∀ o ∈ os, I64 o.2.1
section
variable {H : Type} {enc : TypeId × Value → H} {w : World}
theorem rop2_open {fuel : Nat} {cs : List Value} {d : DataW H} {ps : List MemPlace} (h : DataW.trod enc Tryd.prog w 0 (fun _ => true) true fuel 32 cs = some (d, ps)) (hr : InReach Tryd.prog 32 d) (hl : Lows w ps) : ∃ x, ROp2 w cs x := by
  obtain ⟨hcl, n, hf⟩ := open_fields Tryd.underlying32 h hr hl
  have hc3 : cs.length = 3 := hcl.trans (by kernel_rfl)
  clear hcl
  obtain ⟨v0, v1, v2, rfl⟩ := list3 hc3
  obtain ⟨d0, p0, t0, _, _⟩ := hf 0 3 0 1 _ rfl rfl rfl (by kernel_rfl)
  obtain ⟨d1, p1, t1, _, _⟩ := hf 1 3 1 1 _ rfl rfl rfl (by kernel_rfl)
  obtain ⟨d2, p2, t2, r2, l2⟩ := hf 2 30 2 1 _ rfl rfl rfl (by kernel_rfl)
  obtain ⟨k, e0, _⟩ := rint_open t0
  obtain ⟨m, e1, hm⟩ := rint_open t1
  obtain ⟨zs, hz⟩ := rints_open t2 r2 l2
  simp at e0 e1 hz
  subst e0 e1
  exact ⟨(k, m, zs), ⟨[v2], rfl, hz⟩, hm⟩
theorem opsI_open {fuel : Nat} {a : Option Addr} {n c : Nat} {d : DataW H} {ps : List MemPlace} (h : DataW.trod enc Tryd.prog w 0 (fun _ => true) true fuel 22 [.slice a n c] = some (d, ps)) (hr : InReach Tryd.prog 22 d) (hl : Lows w ps) :
    ∃ os : List (Int × Int × List Int), os.length = n ∧ OpsI w a os ∧ os.length ≤ c ∧ (a = none → c = 0) := by
  obtain ⟨os, a', c', h1, h2, h3, h4, _, h6⟩ := open_RSl (R := ROp2) (k := 3) (by' := 40) Tryd.underlying22 (by kernel_rfl) (by decide) (by kernel_rfl) (fun _ _ _ _ h r l => rop2_open h r l) h hr hl
  simp at h1
  obtain ⟨rfl, rfl, rfl⟩ := h1
  refine ⟨os, rfl, ⟨⟨fun h0 => ?_, by unfold reachBytes at h4; omega⟩, fun o ho => ?_⟩, h3, h2⟩
  · obtain ⟨b, off, e, hlt, hc⟩ := h6 h0
    refine ⟨b, off, e, hlt, fun i o hi => ?_⟩
    obtain ⟨us, _, u2, ⟨us3, u3, u4⟩, _⟩ := hc i o hi
    obtain ⟨la, lc, rfl, z1, z2, z3, z4⟩ := u4.ints
    have c0 := u2 0 (by omega)
    have c1 := u2 1 (by omega)
    have c2 := u2 2 (by omega)
    rw [u3] at c0 c1 c2
    exact ⟨by simpa using c0, by simpa using c1, la, lc, by simpa using c2, z1, z2, z3, z4⟩
  · obtain ⟨i, hi, rfl⟩ := List.getElem_of_mem ho
    obtain ⟨b, off, e, hlt, hc⟩ := h6 (by omega)
    obtain ⟨us, _, _, u4⟩ := hc i _ (List.getElem?_eq_getElem hi)
    exact u4.2
end
end Go.Proofs.YtgpifbhfnbkgoaaDoor

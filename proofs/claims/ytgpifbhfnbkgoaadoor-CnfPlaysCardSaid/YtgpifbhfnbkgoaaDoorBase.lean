/- How slices of ints and bools read, and the contracts of the leaves of packages lits and haversackref14. -/
import Derived.Test.YtgpifbhfnbkgoaaDoorProg
import Derived.Test.YtgpifbhfnbkgoaaDoorMath
import Derived.WalkKit
import Derived.WalkLawsBesides
import Derived.WalkSpells
import Derived.Deep.QuietTactic
import Derived.BigQuiet
import Derived.Lib.Hide
import Derived.Outline
namespace Go.Proofs.YtgpifbhfnbkgoaaDoor
open Go.RowKit

def I64 (z : Int) : Prop := -9223372036854775808 ≤ z ∧ z ≤ 9223372036854775807
theorem I64.lo {z : Int} (h : I64 z) : -9223372036854775808 ≤ z := h.1
theorem I64.hi {z : Int} (h : I64 z) : z ≤ 9223372036854775807 := h.2
theorem I64.of_lit {z : Int} (h : M.isLit z = true) : I64 z := by
  have := (M.isLit_iff z).1 h; exact ⟨by omega, by omega⟩

/-- a slice of ints reads as zs (whatever its address where it is empty) -/
structure Ints (w : World) (a : Option Addr) (zs : List Int) : Prop where
  addr : 0 < zs.length → ∃ b off, a = some ⟨b, off, none⟩ ∧ b < w.heap.size ∧ ∀ i z, zs[i]? = some z → w.cell? ⟨b, off + i, none⟩ = some (.int .i64 z)
  wf : ∀ z ∈ zs, I64 z
  len : zs.length ≤ 17592186043904
/-- a slice of bools reads as m -/
structure Bools (w : World) (a : Option Addr) (m : List Bool) : Prop where
  addr : 0 < m.length → ∃ b off, a = some ⟨b, off, none⟩ ∧ b < w.heap.size ∧ ∀ i z, m[i]? = some z → w.cell? ⟨b, off + i, none⟩ = some (.bool z)
  len : m.length ≤ 140737488351232

theorem Ints.below {w w' : World} {a : Option Addr} {zs : List Int} (h : Ints w a zs) (hb : Below w.heap.size w w') : Ints w' a zs := by
  refine ⟨fun h0 => ?_, h.wf, h.len⟩
  obtain ⟨b, off, rfl, hlt, hc⟩ := h.addr h0
  exact ⟨b, off, rfl, Nat.lt_of_lt_of_le hlt hb.size, fun i z hz => (hb.cell (p := ⟨b, off + i, none⟩) hlt).trans (hc i z hz)⟩
theorem Bools.below {w w' : World} {a : Option Addr} {zs : List Bool} (h : Bools w a zs) (hb : Below w.heap.size w w') : Bools w' a zs := by
  refine ⟨fun h0 => ?_, h.len⟩
  obtain ⟨b, off, rfl, hlt, hc⟩ := h.addr h0
  exact ⟨b, off, rfl, Nat.lt_of_lt_of_le hlt hb.size, fun i z hz => (hb.cell (p := ⟨b, off + i, none⟩) hlt).trans (hc i z hz)⟩

theorem ret_bool {a b : Bool} (h : a = b) : Ending.returned (.bool a) = .returned (.bool b) := by rw [h]
theorem ret_int {k : IntKind} {a b : Int} (h : a = b) : Ending.returned (.int k a) = .returned (.int k b) := by rw [h]

theorem literal_any (l : Int) (w : World) :
    Calls Tryd.prog 68 #[.int .i64 l] w fun e w' => e = .returned (.bool (M.isLit l)) ∧ w = w' := by
  by_cases h0 : l = 0
  · subst h0
    go_enter Tryd.func68, Tryd.ntmps68
    go_wp2
    go_ret
    exact ⟨rfl, rfl⟩
  · have hb : (l != 0) = true := by simpa using h0
    go_enter Tryd.func68, Tryd.ntmps68
    go_wp2
    all_goals
      go_ret
      refine ⟨ret_bool ?_, rfl⟩
      rw [Bool.eq_iff_iff, M.isLit_iff]; simp; omega

theorem variable_any (l : Int) (w : World) (h : M.isLit l = true) (v : Nat) (hv : M.vr l = (v : Int) + 1) :
    Calls Tryd.prog 114 #[.int .i64 l] w fun e w' => e = .returned (.int .i64 ((v : Int) + 1)) ∧ w = w' := by
  rw [← hv]
  clear hv v
  have h1 := (M.isLit_iff l).1 h
  have h2 : -20000 ≤ l := h1.2.1
  have h3 : l ≤ 20000 := h1.2.2
  clear h h1
  by_cases hn : l < 0
  · go_enter Tryd.func114, Tryd.ntmps114
    go_wp2
    go_ret
    refine ⟨ret_int ?_, rfl⟩
    rw [M.vr_of_neg hn]; (try simp); (try omega)
  · go_enter Tryd.func114, Tryd.ntmps114
    go_wp2
    go_ret
    refine ⟨ret_int ?_, rfl⟩
    rw [M.vr_of_pos (by omega)]; (try simp); (try omega)

end Go.Proofs.YtgpifbhfnbkgoaaDoor

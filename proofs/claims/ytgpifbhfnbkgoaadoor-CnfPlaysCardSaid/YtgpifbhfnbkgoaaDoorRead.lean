/- Contracts of functions that only read: haversackref14, haversacknum, lits.All, lits.Vars. -/
import Derived.Test.YtgpifbhfnbkgoaaDoorBase
namespace Go.Proofs.YtgpifbhfnbkgoaaDoor
open Go.RowKit

/-- a slice of slices of ints reads as cs -/
structure Cls (w : World) (a : Option Addr) (cs : List (List Int)) : Prop where
  addr : 0 < cs.length → ∃ b off, a = some ⟨b, off, none⟩ ∧ b < w.heap.size ∧ ∀ i c, cs[i]? = some c → ∃ a' c', w.cell? ⟨b, off + i, none⟩ = some (.slice a' c.length c') ∧ Ints w a' c
  len : cs.length ≤ 17592186043904
theorem Cls.below {w w' : World} {a : Option Addr} {cs : List (List Int)} (h : Cls w a cs) (hb : Below w.heap.size w w') : Cls w' a cs := by
  refine ⟨fun h0 => ?_, h.len⟩
  obtain ⟨b, off, rfl, hlt, hc⟩ := h.addr h0
  refine ⟨b, off, rfl, Nat.lt_of_lt_of_le hlt hb.size, fun i z hz => ?_⟩
  obtain ⟨a', c', h1, h2⟩ := hc i z hz
  exact ⟨a', c', (hb.cell (p := ⟨b, off + i, none⟩) hlt).trans h1, h2.below hb⟩

theorem is_any (l : Int) (w : World) :
    Calls Tryd.prog 91 #[.int .i64 l] w fun e w' => e = .returned (.bool (M.isLit l)) ∧ w = w' := by
  by_cases h0 : l = 0
  · subst h0
    go_enter Tryd.func91, Tryd.ntmps91
    go_wp2
    go_ret
    exact ⟨rfl, rfl⟩
  · have hb : (l != 0) = true := by simpa using h0
    go_enter Tryd.func91, Tryd.ntmps91
    go_wp2
    all_goals
      go_ret
      refine ⟨ret_bool ?_, rfl⟩
      rw [Bool.eq_iff_iff, M.isLit_iff]; simp; omega

theorem in_any (a : Option Addr) (c : Nat) (zs : List Int) (x : Int) (w : World) (hz : Ints w a zs) :
    Calls Tryd.prog 72 #[.slice a zs.length c, .int .i64 x] w fun e w' => e = .returned (.bool (M.inn zs x)) ∧ w = w' := by
  have hlen := hz.len
  go_enter Tryd.func72, Tryd.ntmps72
  go_wp2
  go_loop [6, 9] (fun _ i => ∃ k : Nat, k ≤ zs.length ∧ i = .int .i64 k ∧ M.inn (zs.take k) x = false) (fun _ i => zs.length - (intOf i).toNat)
  case atStart => exact ⟨0, Nat.zero_le _, rfl, rfl⟩
  case round =>
    obtain ⟨k, hk, rfl, hf⟩ := hrel
    by_cases hlt : k < zs.length
    · obtain ⟨b, off, rfl, hbl, hc⟩ := hz.addr (by omega)
      obtain ⟨z, hzk⟩ : ∃ z, zs[k]? = some z := ⟨zs[k], by simp [hlt]⟩
      have hcell := hc k z hzk
      have HZ := Lib.hid hzk
      have HF := Lib.hid hf
      clear hc hzk hf
      cases hl : (z == x)
      · go_wp2
        go_round
        case rel => exact ⟨k + 1, by omega, by go_num, by rw [M.inn_snoc HZ.out, HF.out, hl]; rfl⟩
        case measure => simp [intOf]; omega
      · go_wp2
        go_ret
        exact ⟨ret_bool (M.inn_hit HZ.out hl).symm, rfl⟩
    · go_wp2
      go_ret
      refine ⟨ret_bool ?_, rfl⟩
      rw [List.take_of_length_le (by omega)] at hf
      exact hf.symm

end Go.Proofs.YtgpifbhfnbkgoaaDoor

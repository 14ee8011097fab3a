/- Contracts of functions that only read: haversackref14, haversacknum, lits.All, lits.Vars. -/
import Derived.Test.YtllkeojkejbbeaaDoorBase
namespace Go.Proofs.YtllkeojkejbbeaaDoor
open Go.RowKit

/-- a slice of slices of ints reads as cs -/
structure Cls (w : World) (a : Option Addr) (cs : List (List Int)) : Prop where
  addr : 0 < cs.length → ∃ b off, a = some ⟨b, off, none⟩ ∧ b < w.heap.size ∧ ∀ i c, cs[i]? = some c → ∃ a' c', w.cell? ⟨b, off + i, none⟩ = some (.slice a' c.length c') ∧ Ints w a' c
  len : cs.length ≤ 17592186043904
theorem Cls.below {w w' : World} {a : Option Addr} {cs : List (List Int)} (h : Cls w a cs) (hb : Below w.heap.size w w') : Cls w' a cs := by
  refine ⟨fun h0 => ?_, h.len⟩
  obtain ⟨b, off, rfl, hlt, hc⟩ := h.addr h0
  refine ⟨b, off, rfl, Nat.lt_of_lt_of_le hlt hb.size, fun i z hz => ?_⟩
  obtain ⟨a', c', h1, h2⟩ := hc i z hz
  exact ⟨a', c', (hb.cell (p := ⟨b, off + i, none⟩) hlt).trans h1, h2.below hb⟩

theorem is_any (l : Int) (w : World) :
    Calls Tryd.prog 62 #[.int .i64 l] w fun e w' => e = .returned (.bool (M.isLit l)) ∧ w = w' := by
  by_cases h0 : l = 0
  · subst h0
    go_enter Tryd.func62, Tryd.ntmps62
    go_wp2
    go_ret
    exact ⟨rfl, rfl⟩
  · have hb : (l != 0) = true := by simpa using h0
    go_enter Tryd.func62, Tryd.ntmps62
    go_wp2
    all_goals
      go_ret
      refine ⟨ret_bool ?_, rfl⟩
      rw [Bool.eq_iff_iff, M.isLit_iff]; simp; omega

theorem rholds_any (z : Int) (b : Option Addr) (d : Nat) (m : List Bool) (w : World) (hm : Bools w b m) :
    Calls Tryd.prog 46 #[.int .i64 z, .slice b m.length d] w fun e w' => e = .returned (.bool (M.holds z m)) ∧ w = w' := by
  have hml := hm.len
  cases hl : M.isLit z
  · go_enter Tryd.func46, Tryd.ntmps46
    go_wp2_with (go_at_call 62; refine (is_any _ _).mono ?_; rintro e w' ⟨rfl, rfl⟩)
    go_ret
    exact ⟨ret_bool (by simp [M.holds, hl]), rfl⟩
  · obtain ⟨v, hv⟩ := M.vr_succ hl
    have HV := Lib.hid hv
    have h2 := (M.isLit_iff z).1 hl
    have hlo : -20000 ≤ z := h2.2.1
    have hhi : z ≤ 20000 := h2.2.2
    have hne : z ≠ 0 := h2.1
    clear h2
    by_cases hn : z < 0
    · have hz : (-z).toNat - 1 = v := by have := M.vr_of_neg hn; omega
      by_cases hvm : v < m.length
      · obtain ⟨b2, off2, rfl, hbl2, hc2⟩ := hm.addr (by omega)
        obtain ⟨y, hy⟩ : ∃ y, m[v]? = some y := ⟨m[v], by simp [hvm]⟩
        have hcell2 := hc2 v y hy
        have HY := Lib.hid hy
        rw [← hz] at hcell2 hvm
        have hi1 : 0 ≤ -z - 1 := by omega
        have hi2 : -z - 1 < (m.length : Int) := by omega
        have hd : decide ((m.length : Int) < -z) = false := by simp; omega
        clear hc2 hy hv hz hvm
        go_enter Tryd.func46, Tryd.ntmps46
        go_wp2_with (go_at_call 62; refine (is_any _ _).mono ?_; rintro e w' ⟨rfl, rfl⟩)
        go_ret
        exact ⟨ret_bool (by rw [M.holds_in hl HV.out HY.out, decide_eq_false (by omega)]; simp), rfl⟩
      · have hd : decide ((m.length : Int) < -z) = true := by simp; omega
        clear hv hz
        go_enter Tryd.func46, Tryd.ntmps46
        go_wp2_with (go_at_call 62; refine (is_any _ _).mono ?_; rintro e w' ⟨rfl, rfl⟩)
        go_ret
        exact ⟨ret_bool (by rw [M.holds_out hl HV.out (by omega), decide_eq_false (by omega)]; simp), rfl⟩
    · have hz : z.toNat - 1 = v := by have := M.vr_of_pos hn; omega
      by_cases hvm : v < m.length
      · obtain ⟨b2, off2, rfl, hbl2, hc2⟩ := hm.addr (by omega)
        obtain ⟨y, hy⟩ : ∃ y, m[v]? = some y := ⟨m[v], by simp [hvm]⟩
        have hcell2 := hc2 v y hy
        have HY := Lib.hid hy
        rw [← hz] at hcell2 hvm
        have hi1 : 0 ≤ z - 1 := by omega
        have hi2 : z - 1 < (m.length : Int) := by omega
        have hd : decide (z ≤ (m.length : Int)) = true := by simp; omega
        clear hc2 hy hv hz hvm
        go_enter Tryd.func46, Tryd.ntmps46
        go_wp2_with (go_at_call 62; refine (is_any _ _).mono ?_; rintro e w' ⟨rfl, rfl⟩)
        go_ret
        exact ⟨ret_bool (by rw [M.holds_in hl HV.out HY.out, decide_eq_true (by omega)]; simp), rfl⟩
      · have hd : decide (z ≤ (m.length : Int)) = false := by simp; omega
        clear hv hz
        go_enter Tryd.func46, Tryd.ntmps46
        go_wp2_with (go_at_call 62; refine (is_any _ _).mono ?_; rintro e w' ⟨rfl, rfl⟩)
        go_ret
        exact ⟨ret_bool (by rw [M.holds_out hl HV.out (by omega), decide_eq_true (by omega)]; simp), rfl⟩

theorem in_any (a : Option Addr) (c : Nat) (zs : List Int) (x : Int) (w : World) (hz : Ints w a zs) :
    Calls Tryd.prog 33 #[.slice a zs.length c, .int .i64 x] w fun e w' => e = .returned (.bool (M.inn zs x)) ∧ w = w' := by
  have hlen := hz.len
  go_enter Tryd.func33, Tryd.ntmps33
  go_wp2
  go_loop [6, 9] (fun _ i => ∃ k : Nat, k ≤ zs.length ∧ i = .int .i64 k ∧ M.inn (zs.take k) x = false) (fun _ i => zs.length - (intOf i).toNat)
  case atStart => exact ⟨0, Nat.zero_le _, rfl, rfl⟩
  case round =>
    obtain ⟨k, hk, rfl, hf⟩ := hrel
    by_cases hlt : k < zs.length
    · obtain ⟨b, off, rfl, hbl, hc⟩ := hz.addr (by omega)
      obtain ⟨z, hzk⟩ : ∃ z, zs[k]? = some z := ⟨zs[k], by simp [hlt]⟩
      have hcell := hc k z hzk
      have HZ := Lib.hid hzk
      have HF := Lib.hid hf
      clear hc hzk hf
      cases hl : (z == x)
      · go_wp2
        go_round
        case rel => exact ⟨k + 1, by omega, by go_num, by rw [M.inn_snoc HZ.out, HF.out, hl]; rfl⟩
        case measure => simp [intOf]; omega
      · go_wp2
        go_ret
        exact ⟨ret_bool (M.inn_hit HZ.out hl).symm, rfl⟩
    · go_wp2
      go_ret
      refine ⟨ret_bool ?_, rfl⟩
      rw [List.take_of_length_le (by omega)] at hf
      exact hf.symm

end Go.Proofs.YtllkeojkejbbeaaDoor

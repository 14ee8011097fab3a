/- Contracts of functions that only read, continued: haversacknum.SameInts, haversackref14.Big, lits.Vars, lits.Right .. -/
import Derived.Test.YtgpifbhfnbkgoaaDoorRead
namespace Go.Proofs.YtgpifbhfnbkgoaaDoor
open Go.RowKit

def M.eqs (a b : List Int) : Bool := decide (a = b)
theorem M.eqs_iff (a b : List Int) : M.eqs a b = true ↔ a = b := by simp [M.eqs]
theorem M.eqs_take {zs ys : List Int} {k : Nat} {z y : Int} (hz : zs[k]? = some z) (hy : ys[k]? = some y) (h : zs.take k = ys.take k) (e : (z != y) = false) : zs.take (k + 1) = ys.take (k + 1) := by
  have e' : z = y := by simpa using e
  rw [List.take_add_one, List.take_add_one, hz, hy, h, e']
theorem M.eqs_part {zs ys : List Int} {k : Nat} {z y : Int} (hz : zs[k]? = some z) (hy : ys[k]? = some y) (e : (z != y) = true) : M.eqs zs ys = false := by
  have e' : z ≠ y := by simpa using e
  cases h : M.eqs zs ys
  · rfl
  · rw [M.eqs_iff] at h; subst h; rw [hz] at hy; exact absurd (Option.some.inj hy) e'

theorem sameInts_any (a : Option Addr) (c : Nat) (zs : List Int) (b : Option Addr) (d : Nat) (ys : List Int) (w : World) (hz : Ints w a zs) (hy : Ints w b ys) :
    Calls Tryd.prog 19 #[.slice a zs.length c, .slice b ys.length d] w fun e w' => e = .returned (.bool (M.eqs zs ys)) ∧ ∃ q, w' = w.drewN q := by
  have hlen := hz.len
  have hlen2 := hy.len
  by_cases hl : zs.length = ys.length
  · have hb : ((zs.length : Int) != (ys.length : Int)) = false := by simp [hl]
    have HL := Lib.hid hl
    clear hl
    go_enter Tryd.func19, Tryd.ntmps19
    go_wp2
    go_loopw [5, 13] (fun _ i wr => ∃ k : Nat, k ≤ zs.length ∧ i = .int .i64 k ∧ zs.take k = ys.take k ∧ ∃ q, wr = w.drewN q) (fun _ i _ => zs.length - (intOf i).toNat)
    case atStart => exact ⟨0, Nat.zero_le _, rfl, rfl, 0, rfl⟩
    case round =>
      obtain ⟨k, hk, rfl, hf, q, rfl⟩ := hrel
      have HF := Lib.hid hf
      clear hf
      by_cases hlt : k < zs.length
      · have hlt2 : k < ys.length := by have := HL.out; omega
        obtain ⟨b1, off1, rfl, hbl1, hc1⟩ := hz.addr (by omega)
        obtain ⟨b2, off2, rfl, hbl2, hc2⟩ := hy.addr (by omega)
        obtain ⟨z, hzk⟩ : ∃ z, zs[k]? = some z := ⟨zs[k], by simp [hlt]⟩
        obtain ⟨y, hyk⟩ : ∃ z, ys[k]? = some z := ⟨ys[k], by simp [hlt2]⟩
        have hcell1 := hc1 k z hzk
        have hcell2 := hc2 k y hyk
        have HZ := Lib.hid hzk
        have HY := Lib.hid hyk
        have hi1 : (k : Int) < (zs.length : Int) := by omega
        have hi2 : (k : Int) < (ys.length : Int) := by omega
        clear hc1 hc2 hzk hyk
        go_wp2
        go_quiet (fail)
        go_wp2
        · have hp : (z != y) = true := by assumption
          go_ret
          exact ⟨ret_bool (M.eqs_part HZ.out HY.out hp).symm, q + nq, World.drewN_drewN _ _ _⟩
        · have hp : (z != y) = false := by assumption
          go_roundw
          case rel => exact ⟨k + 1, by omega, by go_num, M.eqs_take HZ.out HY.out HF.out hp, _, rfl⟩
          case measure => simp [intOf]; omega
      · go_wp2
        go_ret
        refine ⟨ret_bool ?_, q, rfl⟩
        have := HF.out
        rw [List.take_of_length_le (by omega), List.take_of_length_le (by have := HL.out; omega)] at this
        rw [this]; simp [M.eqs]
  · have hb : ((zs.length : Int) != (ys.length : Int)) = true := by rw [bne_iff_ne]; omega
    go_enter Tryd.func19, Tryd.ntmps19
    go_wp2
    go_ret
    refine ⟨ret_bool ?_, 0, rfl⟩
    symm
    simp only [M.eqs, decide_eq_false_iff_not]
    rintro rfl; exact hl rfl

/-! ### the order of literals -/
def M.cmpI (a b : Int) : Int := if a < b then -1 else if b < a then 1 else 0
theorem isNaN_any (a : Int) (w : World) :
    Calls Tryd.prog 125 #[.int .i64 a] w fun e w' => e = .returned (.bool false) ∧ w = w' := by
  go_enter Tryd.func125, Tryd.ntmps125
  go_wp2
  go_ret
  exact ⟨rfl, rfl⟩
theorem compare_any (a b : Int) (w : World) :
    Calls Tryd.prog 98 #[.int .i64 a, .int .i64 b] w fun e w' => e = .returned (.int .i64 (M.cmpI a b)) ∧ w = w' := by
  unfold M.cmpI
  by_cases h1 : a < b
  · rw [if_pos h1]
    go_enter Tryd.func98, Tryd.ntmps98
    go_wp2_with (go_at_call 125; refine (isNaN_any _ _).mono ?_; rintro e w' ⟨rfl, rfl⟩)
    go_ret
    exact ⟨rfl, rfl⟩
  · rw [if_neg h1]
    by_cases h2 : b < a
    · rw [if_pos h2]
      go_enter Tryd.func98, Tryd.ntmps98
      go_wp2_with (go_at_call 125; refine (isNaN_any _ _).mono ?_; rintro e w' ⟨rfl, rfl⟩)
      go_ret
      exact ⟨rfl, rfl⟩
    · rw [if_neg h2]
      go_enter Tryd.func98, Tryd.ntmps98
      go_wp2_with (go_at_call 125; refine (isNaN_any _ _).mono ?_; rintro e w' ⟨rfl, rfl⟩)
      go_ret
      exact ⟨rfl, rfl⟩
def M.orI (x y : Int) : Int := if x = 0 then y else x
theorem or_any (B : Nat) (x y : Int) (w : World) (h0 : w.cell? ⟨B, 0, none⟩ = some (.int .i64 x)) (h1 : w.cell? ⟨B, 1, none⟩ = some (.int .i64 y)) :
    Calls Tryd.prog 96 #[.slice (some ⟨B, 0, none⟩) 2 2] w fun e w' => e = .returned (.int .i64 (M.orI x y)) ∧ w = w' := by
  by_cases hx : x = 0
  · subst hx
    rw [show M.orI 0 y = y from if_pos rfl]
    by_cases hy : y = 0
    · subst hy
      go_enter Tryd.func96, Tryd.ntmps96
      go_wp2
      refine wp_loop_rounds 3 ?_
      rw [rounds_succ]
      go_wp2
      rw [rounds_succ]
      go_wp2
      rw [rounds_succ]
      go_wp2
      go_ret
      exact ⟨rfl, rfl⟩
    · have hb : (y != 0) = true := by simpa using hy
      go_enter Tryd.func96, Tryd.ntmps96
      go_wp2
      refine wp_loop_rounds 2 ?_
      rw [rounds_succ]
      go_wp2
      rw [rounds_succ]
      go_wp2
      go_ret
      exact ⟨rfl, rfl⟩
  · rw [show M.orI x y = x from if_neg hx]
    have hb : (x != 0) = true := by simpa using hx
    go_enter Tryd.func96, Tryd.ntmps96
    go_wp2
    refine wp_loop_rounds 1 ?_
    rw [rounds_succ]
    go_wp2
    go_ret
    exact ⟨rfl, rfl⟩
theorem order_any (a b : Int) (w : World) (ha : M.isLit a = true) (hb : M.isLit b = true) :
    Calls Tryd.prog 88 #[.int .i64 a, .int .i64 b] w fun e w' => e = .returned (.int .i64 (M.cmp a b)) ∧ ∃ o, w' = w.alloc o := by
  obtain ⟨u, hu⟩ := M.vr_succ ha
  obtain ⟨v, hv⟩ := M.vr_succ hb
  have HU := Lib.hid hu
  have HV := Lib.hid hv
  clear hu hv
  go_enter Tryd.func88, Tryd.ntmps88
  go_wp2_with fail
  refine (variable_any _ _ ha u HU.out).mono ?_
  rintro e w' ⟨rfl, rfl⟩
  go_wp2_with fail
  refine (variable_any _ _ hb v HV.out).mono ?_
  rintro e w' ⟨rfl, rfl⟩
  go_wp2_with fail
  refine (compare_any _ _ _).mono ?_
  rintro e w' ⟨rfl, rfl⟩
  go_wp2_with fail
  refine (compare_any _ _ _).mono ?_
  rintro e w' ⟨rfl, rfl⟩
  go_wp2_with fail
  refine (or_any _ (M.cmpI (↑u + 1) (↑v + 1)) (M.cmpI a b) _ ?_ ?_).mono ?_
  · simp
  · simp
  rintro e w' ⟨rfl, rfl⟩
  go_wp2_with fail
  go_ret
  refine ⟨ret_int ?_, _, rfl⟩
  rw [← HU.out, ← HV.out]
  unfold M.orI M.cmp M.cmpI
  (repeat' split) <;> omega
end Go.Proofs.YtgpifbhfnbkgoaaDoor

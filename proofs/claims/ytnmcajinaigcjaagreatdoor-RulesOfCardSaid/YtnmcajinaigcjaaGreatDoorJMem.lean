/- One text of XBase, XRead, XRead2, XLits, XOwn, XSorted, XNorm, XOwnAt, XFm, XCnf, XMany, XOne, XClauses, XBoolsA, XModels, XGate, XBox, XAnd, XAnd2, XAdd, XTurn: a claim has at most 60 files. -/
import Derived.Test.YtnmcajinaigcjaaGreatDoorProg
import Derived.Test.YtnmcajinaigcjaaGreatDoorJPl
import Derived.WalkKit
import Derived.WalkLawsBesides
import Derived.WalkSpells
import Derived.Deep.QuietTactic
import Derived.BigQuiet
import Derived.Lib.Hide
import Derived.Outline
import Derived.Laws.AppendOwnNone
import Derived.Test.YtnmcajinaigcjaaGreatDoorShelf
import Derived.Lib.OwnBridge
import Derived.Sort.OwnSortedInts
import Derived.Maps.AppendAt
import Derived.Lib.RabinKarpLaws
import Derived.Deep.RegionWith
namespace Go.Proofs.YtnmcajinaigcjaaGreatDoor.C
open Go.RowKit

def I64 (z : Int) : Prop := -9223372036854775808 ≤ z ∧ z ≤ 9223372036854775807
theorem I64.lo {z : Int} (h : I64 z) : -9223372036854775808 ≤ z := h.1
theorem I64.hi {z : Int} (h : I64 z) : z ≤ 9223372036854775807 := h.2
theorem I64.of_lit {z : Int} (h : M.isLit z = true) : I64 z := by
  have := (M.isLit_iff z).1 h; exact ⟨by omega, by omega⟩

/-- a slice of ints reads as zs (whatever its address where it is empty) -/
structure Ints (w : World) (a : Option Addr) (zs : List Int) : Prop where
  addr : 0 < zs.length → ∃ b off, a = some ⟨b, off, none⟩ ∧ b < w.heap.size ∧ ∀ i z, zs[i]? = some z → w.cell? ⟨b, off + i, none⟩ = some (.int .i64 z)
  wf : ∀ z ∈ zs, I64 z
  len : zs.length ≤ 17592186043904
/-- a slice of bools reads as m -/
structure Bools (w : World) (a : Option Addr) (m : List Bool) : Prop where
  addr : 0 < m.length → ∃ b off, a = some ⟨b, off, none⟩ ∧ b < w.heap.size ∧ ∀ i z, m[i]? = some z → w.cell? ⟨b, off + i, none⟩ = some (.bool z)
  len : m.length ≤ 140737488351232

theorem Ints.below {w w' : World} {a : Option Addr} {zs : List Int} (h : Ints w a zs) (hb : Below w.heap.size w w') : Ints w' a zs := by
  refine ⟨fun h0 => ?_, h.wf, h.len⟩
  obtain ⟨b, off, rfl, hlt, hc⟩ := h.addr h0
  exact ⟨b, off, rfl, Nat.lt_of_lt_of_le hlt hb.size, fun i z hz => (hb.cell (p := ⟨b, off + i, none⟩) hlt).trans (hc i z hz)⟩
theorem Bools.below {w w' : World} {a : Option Addr} {zs : List Bool} (h : Bools w a zs) (hb : Below w.heap.size w w') : Bools w' a zs := by
  refine ⟨fun h0 => ?_, h.len⟩
  obtain ⟨b, off, rfl, hlt, hc⟩ := h.addr h0
  exact ⟨b, off, rfl, Nat.lt_of_lt_of_le hlt hb.size, fun i z hz => (hb.cell (p := ⟨b, off + i, none⟩) hlt).trans (hc i z hz)⟩

theorem ret_bool {a b : Bool} (h : a = b) : Ending.returned (.bool a) = .returned (.bool b) := by rw [h]
theorem ret_int {k : IntKind} {a b : Int} (h : a = b) : Ending.returned (.int k a) = .returned (.int k b) := by rw [h]

theorem literal_any (l : Int) (w : World) :
    Calls Tryz.prog 160 #[.int .i64 l] w fun e w' => e = .returned (.bool (M.isLit l)) ∧ w = w' := by
  by_cases h0 : l = 0
  · subst h0
    go_enter Tryz.func160, Tryz.ntmps160
    go_wp2
    go_ret
    exact ⟨rfl, rfl⟩
  · have hb : (l != 0) = true := by simpa using h0
    go_enter Tryz.func160, Tryz.ntmps160
    go_wp2
    all_goals
      go_ret
      refine ⟨ret_bool ?_, rfl⟩
      rw [Bool.eq_iff_iff, M.isLit_iff]; simp; omega

theorem variable_any (l : Int) (w : World) (h : M.isLit l = true) (v : Nat) (hv : M.vr l = (v : Int) + 1) :
    Calls Tryz.prog 172 #[.int .i64 l] w fun e w' => e = .returned (.int .i64 ((v : Int) + 1)) ∧ w = w' := by
  rw [← hv]
  clear hv v
  have h1 := (M.isLit_iff l).1 h
  have h2 : -20000 ≤ l := h1.2.1
  have h3 : l ≤ 20000 := h1.2.2
  clear h h1
  by_cases hn : l < 0
  · go_enter Tryz.func172, Tryz.ntmps172
    go_wp2
    go_ret
    refine ⟨ret_int ?_, rfl⟩
    rw [M.vr_of_neg hn]; (try simp); (try omega)
  · go_enter Tryz.func172, Tryz.ntmps172
    go_wp2
    go_ret
    refine ⟨ret_int ?_, rfl⟩
    rw [M.vr_of_pos (by omega)]; (try simp); (try omega)

end Go.Proofs.YtnmcajinaigcjaaGreatDoor.C
namespace Go.Proofs.YtnmcajinaigcjaaGreatDoor.C
open Go.RowKit

/-- a slice of slices of ints reads as cs -/
structure Cls (w : World) (a : Option Addr) (cs : List (List Int)) : Prop where
  addr : 0 < cs.length → ∃ b off, a = some ⟨b, off, none⟩ ∧ b < w.heap.size ∧ ∀ i c, cs[i]? = some c → ∃ a' c', w.cell? ⟨b, off + i, none⟩ = some (.slice a' c.length c') ∧ Ints w a' c
  len : cs.length ≤ 17592186043904
theorem Cls.below {w w' : World} {a : Option Addr} {cs : List (List Int)} (h : Cls w a cs) (hb : Below w.heap.size w w') : Cls w' a cs := by
  refine ⟨fun h0 => ?_, h.len⟩
  obtain ⟨b, off, rfl, hlt, hc⟩ := h.addr h0
  refine ⟨b, off, rfl, Nat.lt_of_lt_of_le hlt hb.size, fun i z hz => ?_⟩
  obtain ⟨a', c', h1, h2⟩ := hc i z hz
  exact ⟨a', c', (hb.cell (p := ⟨b, off + i, none⟩) hlt).trans h1, h2.below hb⟩

theorem is_any (l : Int) (w : World) :
    Calls Tryz.prog 77 #[.int .i64 l] w fun e w' => e = .returned (.bool (M.isLit l)) ∧ w = w' := by
  by_cases h0 : l = 0
  · subst h0
    go_enter Tryz.func77, Tryz.ntmps77
    go_wp2
    go_ret
    exact ⟨rfl, rfl⟩
  · have hb : (l != 0) = true := by simpa using h0
    go_enter Tryz.func77, Tryz.ntmps77
    go_wp2
    all_goals
      go_ret
      refine ⟨ret_bool ?_, rfl⟩
      rw [Bool.eq_iff_iff, M.isLit_iff]; simp; omega

theorem rholds_any (z : Int) (b : Option Addr) (d : Nat) (m : List Bool) (w : World) (hm : Bools w b m) :
    Calls Tryz.prog 47 #[.int .i64 z, .slice b m.length d] w fun e w' => e = .returned (.bool (M.holds z m)) ∧ w = w' := by
  have hml := hm.len
  cases hl : M.isLit z
  · go_enter Tryz.func47, Tryz.ntmps47
    go_wp2_with (go_at_call 77; refine (is_any _ _).mono ?_; rintro e w' ⟨rfl, rfl⟩)
    go_ret
    exact ⟨ret_bool (by simp [M.holds, hl]), rfl⟩
  · obtain ⟨v, hv⟩ := M.vr_succ hl
    have HV := Lib.hid hv
    have h2 := (M.isLit_iff z).1 hl
    have hlo : -20000 ≤ z := h2.2.1
    have hhi : z ≤ 20000 := h2.2.2
    have hne : z ≠ 0 := h2.1
    clear h2
    by_cases hn : z < 0
    · have hz : (-z).toNat - 1 = v := by have := M.vr_of_neg hn; omega
      by_cases hvm : v < m.length
      · obtain ⟨b2, off2, rfl, hbl2, hc2⟩ := hm.addr (by omega)
        obtain ⟨y, hy⟩ : ∃ y, m[v]? = some y := ⟨m[v], by simp [hvm]⟩
        have hcell2 := hc2 v y hy
        have HY := Lib.hid hy
        rw [← hz] at hcell2 hvm
        have hi1 : 0 ≤ -z - 1 := by omega
        have hi2 : -z - 1 < (m.length : Int) := by omega
        have hd : decide ((m.length : Int) < -z) = false := by simp; omega
        clear hc2 hy hv hz hvm
        go_enter Tryz.func47, Tryz.ntmps47
        go_wp2_with (go_at_call 77; refine (is_any _ _).mono ?_; rintro e w' ⟨rfl, rfl⟩)
        go_ret
        exact ⟨ret_bool (by rw [M.holds_in hl HV.out HY.out, decide_eq_false (by omega)]; simp), rfl⟩
      · have hd : decide ((m.length : Int) < -z) = true := by simp; omega
        clear hv hz
        go_enter Tryz.func47, Tryz.ntmps47
        go_wp2_with (go_at_call 77; refine (is_any _ _).mono ?_; rintro e w' ⟨rfl, rfl⟩)
        go_ret
        exact ⟨ret_bool (by rw [M.holds_out hl HV.out (by omega), decide_eq_false (by omega)]; simp), rfl⟩
    · have hz : z.toNat - 1 = v := by have := M.vr_of_pos hn; omega
      by_cases hvm : v < m.length
      · obtain ⟨b2, off2, rfl, hbl2, hc2⟩ := hm.addr (by omega)
        obtain ⟨y, hy⟩ : ∃ y, m[v]? = some y := ⟨m[v], by simp [hvm]⟩
        have hcell2 := hc2 v y hy
        have HY := Lib.hid hy
        rw [← hz] at hcell2 hvm
        have hi1 : 0 ≤ z - 1 := by omega
        have hi2 : z - 1 < (m.length : Int) := by omega
        have hd : decide (z ≤ (m.length : Int)) = true := by simp; omega
        clear hc2 hy hv hz hvm
        go_enter Tryz.func47, Tryz.ntmps47
        go_wp2_with (go_at_call 77; refine (is_any _ _).mono ?_; rintro e w' ⟨rfl, rfl⟩)
        go_ret
        exact ⟨ret_bool (by rw [M.holds_in hl HV.out HY.out, decide_eq_true (by omega)]; simp), rfl⟩
      · have hd : decide (z ≤ (m.length : Int)) = false := by simp; omega
        clear hv hz
        go_enter Tryz.func47, Tryz.ntmps47
        go_wp2_with (go_at_call 77; refine (is_any _ _).mono ?_; rintro e w' ⟨rfl, rfl⟩)
        go_ret
        exact ⟨ret_bool (by rw [M.holds_out hl HV.out (by omega), decide_eq_true (by omega)]; simp), rfl⟩

theorem in_any (a : Option Addr) (c : Nat) (zs : List Int) (x : Int) (w : World) (hz : Ints w a zs) :
    Calls Tryz.prog 111 #[.slice a zs.length c, .int .i64 x] w fun e w' => e = .returned (.bool (M.inn zs x)) ∧ w = w' := by
  have hlen := hz.len
  go_enter Tryz.func111, Tryz.ntmps111
  go_wp2
  go_loop [6, 9] (fun _ i => ∃ k : Nat, k ≤ zs.length ∧ i = .int .i64 k ∧ M.inn (zs.take k) x = false) (fun _ i => zs.length - (intOf i).toNat)
  case atStart => exact ⟨0, Nat.zero_le _, rfl, rfl⟩
  case round =>
    obtain ⟨k, hk, rfl, hf⟩ := hrel
    by_cases hlt : k < zs.length
    · obtain ⟨b, off, rfl, hbl, hc⟩ := hz.addr (by omega)
      obtain ⟨z, hzk⟩ : ∃ z, zs[k]? = some z := ⟨zs[k], by simp [hlt]⟩
      have hcell := hc k z hzk
      have HZ := Lib.hid hzk
      have HF := Lib.hid hf
      clear hc hzk hf
      cases hl : (z == x)
      · go_wp2
        go_round
        case rel => exact ⟨k + 1, by omega, by go_num, by rw [M.inn_snoc HZ.out, HF.out, hl]; rfl⟩
        case measure => simp [intOf]; omega
      · go_wp2
        go_ret
        exact ⟨ret_bool (M.inn_hit HZ.out hl).symm, rfl⟩
    · go_wp2
      go_ret
      refine ⟨ret_bool ?_, rfl⟩
      rw [List.take_of_length_le (by omega)] at hf
      exact hf.symm

end Go.Proofs.YtnmcajinaigcjaaGreatDoor.C
namespace Go.Proofs.YtnmcajinaigcjaaGreatDoor.C
open Go.RowKit

def M.eqs (a b : List Int) : Bool := decide (a = b)
theorem M.eqs_iff (a b : List Int) : M.eqs a b = true ↔ a = b := by simp [M.eqs]
theorem M.eqs_take {zs ys : List Int} {k : Nat} {z y : Int} (hz : zs[k]? = some z) (hy : ys[k]? = some y) (h : zs.take k = ys.take k) (e : (z != y) = false) : zs.take (k + 1) = ys.take (k + 1) := by
  have e' : z = y := by simpa using e
  rw [List.take_add_one, List.take_add_one, hz, hy, h, e']
theorem M.eqs_part {zs ys : List Int} {k : Nat} {z y : Int} (hz : zs[k]? = some z) (hy : ys[k]? = some y) (e : (z != y) = true) : M.eqs zs ys = false := by
  have e' : z ≠ y := by simpa using e
  cases h : M.eqs zs ys
  · rfl
  · rw [M.eqs_iff] at h; subst h; rw [hz] at hy; exact absurd (Option.some.inj hy) e'

theorem sameInts_any (a : Option Addr) (c : Nat) (zs : List Int) (b : Option Addr) (d : Nat) (ys : List Int) (w : World) (hz : Ints w a zs) (hy : Ints w b ys) :
    Calls Tryz.prog 12 #[.slice a zs.length c, .slice b ys.length d] w fun e w' => e = .returned (.bool (M.eqs zs ys)) ∧ ∃ q, w' = w.drewN q := by
  have hlen := hz.len
  have hlen2 := hy.len
  by_cases hl : zs.length = ys.length
  · have hb : ((zs.length : Int) != (ys.length : Int)) = false := by simp [hl]
    have HL := Lib.hid hl
    clear hl
    go_enter Tryz.func12, Tryz.ntmps12
    go_wp2
    go_loopw [5, 13] (fun _ i wr => ∃ k : Nat, k ≤ zs.length ∧ i = .int .i64 k ∧ zs.take k = ys.take k ∧ ∃ q, wr = w.drewN q) (fun _ i _ => zs.length - (intOf i).toNat)
    case atStart => exact ⟨0, Nat.zero_le _, rfl, rfl, 0, rfl⟩
    case round =>
      obtain ⟨k, hk, rfl, hf, q, rfl⟩ := hrel
      have HF := Lib.hid hf
      clear hf
      by_cases hlt : k < zs.length
      · have hlt2 : k < ys.length := by have := HL.out; omega
        obtain ⟨b1, off1, rfl, hbl1, hc1⟩ := hz.addr (by omega)
        obtain ⟨b2, off2, rfl, hbl2, hc2⟩ := hy.addr (by omega)
        obtain ⟨z, hzk⟩ : ∃ z, zs[k]? = some z := ⟨zs[k], by simp [hlt]⟩
        obtain ⟨y, hyk⟩ : ∃ z, ys[k]? = some z := ⟨ys[k], by simp [hlt2]⟩
        have hcell1 := hc1 k z hzk
        have hcell2 := hc2 k y hyk
        have HZ := Lib.hid hzk
        have HY := Lib.hid hyk
        have hi1 : (k : Int) < (zs.length : Int) := by omega
        have hi2 : (k : Int) < (ys.length : Int) := by omega
        clear hc1 hc2 hzk hyk
        go_wp2
        go_quiet (fail)
        go_wp2
        · have hp : (z != y) = true := by assumption
          go_ret
          exact ⟨ret_bool (M.eqs_part HZ.out HY.out hp).symm, q + nq, World.drewN_drewN _ _ _⟩
        · have hp : (z != y) = false := by assumption
          go_roundw
          case rel => exact ⟨k + 1, by omega, by go_num, M.eqs_take HZ.out HY.out HF.out hp, _, rfl⟩
          case measure => simp [intOf]; omega
      · go_wp2
        go_ret
        refine ⟨ret_bool ?_, q, rfl⟩
        have := HF.out
        rw [List.take_of_length_le (by omega), List.take_of_length_le (by have := HL.out; omega)] at this
        rw [this]; simp [M.eqs]
  · have hb : ((zs.length : Int) != (ys.length : Int)) = true := by rw [bne_iff_ne]; omega
    go_enter Tryz.func12, Tryz.ntmps12
    go_wp2
    go_ret
    refine ⟨ret_bool ?_, 0, rfl⟩
    symm
    simp only [M.eqs, decide_eq_false_iff_not]
    rintro rfl; exact hl rfl

/-! ### the order of literals -/
def M.cmpI (a b : Int) : Int := if a < b then -1 else if b < a then 1 else 0
theorem isNaN_any (a : Int) (w : World) :
    Calls Tryz.prog 121 #[.int .i64 a] w fun e w' => e = .returned (.bool false) ∧ w = w' := by
  go_enter Tryz.func121, Tryz.ntmps121
  go_wp2
  go_ret
  exact ⟨rfl, rfl⟩
theorem compare_any (a b : Int) (w : World) :
    Calls Tryz.prog 82 #[.int .i64 a, .int .i64 b] w fun e w' => e = .returned (.int .i64 (M.cmpI a b)) ∧ w = w' := by
  unfold M.cmpI
  by_cases h1 : a < b
  · rw [if_pos h1]
    go_enter Tryz.func82, Tryz.ntmps82
    go_wp2_with (go_at_call 121; refine (isNaN_any _ _).mono ?_; rintro e w' ⟨rfl, rfl⟩)
    go_ret
    exact ⟨rfl, rfl⟩
  · rw [if_neg h1]
    by_cases h2 : b < a
    · rw [if_pos h2]
      go_enter Tryz.func82, Tryz.ntmps82
      go_wp2_with (go_at_call 121; refine (isNaN_any _ _).mono ?_; rintro e w' ⟨rfl, rfl⟩)
      go_ret
      exact ⟨rfl, rfl⟩
    · rw [if_neg h2]
      go_enter Tryz.func82, Tryz.ntmps82
      go_wp2_with (go_at_call 121; refine (isNaN_any _ _).mono ?_; rintro e w' ⟨rfl, rfl⟩)
      go_ret
      exact ⟨rfl, rfl⟩
def M.orI (x y : Int) : Int := if x = 0 then y else x
theorem or_any (B : Nat) (x y : Int) (w : World) (h0 : w.cell? ⟨B, 0, none⟩ = some (.int .i64 x)) (h1 : w.cell? ⟨B, 1, none⟩ = some (.int .i64 y)) :
    Calls Tryz.prog 80 #[.slice (some ⟨B, 0, none⟩) 2 2] w fun e w' => e = .returned (.int .i64 (M.orI x y)) ∧ w = w' := by
  by_cases hx : x = 0
  · subst hx
    rw [show M.orI 0 y = y from if_pos rfl]
    by_cases hy : y = 0
    · subst hy
      go_enter Tryz.func80, Tryz.ntmps80
      go_wp2
      refine wp_loop_rounds 3 ?_
      rw [rounds_succ]
      go_wp2
      rw [rounds_succ]
      go_wp2
      rw [rounds_succ]
      go_wp2
      go_ret
      exact ⟨rfl, rfl⟩
    · have hb : (y != 0) = true := by simpa using hy
      go_enter Tryz.func80, Tryz.ntmps80
      go_wp2
      refine wp_loop_rounds 2 ?_
      rw [rounds_succ]
      go_wp2
      rw [rounds_succ]
      go_wp2
      go_ret
      exact ⟨rfl, rfl⟩
  · rw [show M.orI x y = x from if_neg hx]
    have hb : (x != 0) = true := by simpa using hx
    go_enter Tryz.func80, Tryz.ntmps80
    go_wp2
    refine wp_loop_rounds 1 ?_
    rw [rounds_succ]
    go_wp2
    go_ret
    exact ⟨rfl, rfl⟩
theorem order_any (a b : Int) (w : World) (ha : M.isLit a = true) (hb : M.isLit b = true) :
    Calls Tryz.prog 168 #[.int .i64 a, .int .i64 b] w fun e w' => e = .returned (.int .i64 (M.cmp a b)) ∧ ∃ o, w' = w.alloc o := by
  obtain ⟨u, hu⟩ := M.vr_succ ha
  obtain ⟨v, hv⟩ := M.vr_succ hb
  have HU := Lib.hid hu
  have HV := Lib.hid hv
  clear hu hv
  go_enter Tryz.func168, Tryz.ntmps168
  go_wp2_with fail
  refine (variable_any _ _ ha u HU.out).mono ?_
  rintro e w' ⟨rfl, rfl⟩
  go_wp2_with fail
  refine (variable_any _ _ hb v HV.out).mono ?_
  rintro e w' ⟨rfl, rfl⟩
  go_wp2_with fail
  refine (compare_any _ _ _).mono ?_
  rintro e w' ⟨rfl, rfl⟩
  go_wp2_with fail
  refine (compare_any _ _ _).mono ?_
  rintro e w' ⟨rfl, rfl⟩
  go_wp2_with fail
  refine (or_any _ (M.cmpI (↑u + 1) (↑v + 1)) (M.cmpI a b) _ ?_ ?_).mono ?_
  · simp
  · simp
  rintro e w' ⟨rfl, rfl⟩
  go_wp2_with fail
  go_ret
  refine ⟨ret_int ?_, _, rfl⟩
  rw [← HU.out, ← HV.out]
  unfold M.orI M.cmp M.cmpI
  (repeat' split) <;> omega
end Go.Proofs.YtnmcajinaigcjaaGreatDoor.C
namespace Go.Proofs.YtnmcajinaigcjaaGreatDoor.C
open Go.RowKit

theorem right_any (a : Option Addr) (c : Nat) (zs : List Int) (w : World) (hz : Ints w a zs) :
    Calls Tryz.prog 170 #[.slice a zs.length c] w fun e w' => e = .returned (.bool (M.right zs)) ∧ Below w.heap.size w w' := by
  have hlen := hz.len
  go_enter Tryz.func170, Tryz.ntmps170
  go_wp2
  go_loopw [3, 4, 7] (fun _ _ i wr => ∃ k : Nat, k ≤ zs.length ∧ i = .int .i64 k ∧ M.right (zs.take k) = true ∧ Below w.heap.size w wr) (fun _ _ i _ => zs.length - (intOf i).toNat)
  case atStart => exact ⟨0, Nat.zero_le _, rfl, rfl, Below.refl _ _⟩
  case round =>
    obtain ⟨k, hk, rfl, hf, hb⟩ := hrel
    have HF := Lib.hid hf
    clear hf
    by_cases hlt : k < zs.length
    · have hzr := hz.below hb
      obtain ⟨b, off, rfl, hbl, hc⟩ := hzr.addr (by omega)
      obtain ⟨z, hzk⟩ : ∃ z, zs[k]? = some z := ⟨zs[k], by simp [hlt]⟩
      have hcell := hc k z hzk
      have HZ := Lib.hid hzk
      clear hzk
      cases hl : M.isLit z
      · clear hc
        go_wp2_with (go_at_call 160; refine (literal_any _ _).mono ?_; rintro e w' ⟨rfl, rfl⟩)
        go_ret
        refine ⟨ret_bool ?_, hb⟩
        symm
        apply M.right_miss (k := k + 1)
        by_cases hk0 : 0 < k
        · obtain ⟨y, hy⟩ : ∃ y, zs[k - 1]? = some y := ⟨zs[k - 1], List.getElem?_eq_getElem (by omega)⟩
          rw [M.right_step hk0 hy HZ.out HF.out, hl]; rfl
        · rw [M.right_zero hk0 HZ.out]; exact hl
      · by_cases hk0 : 0 < k
        · obtain ⟨y, hy⟩ : ∃ y, zs[k - 1]? = some y := ⟨zs[k - 1], List.getElem?_eq_getElem (by omega)⟩
          have hcell2 := hc (k - 1) y hy
          have HY := Lib.hid hy
          have hly : M.isLit y = true := ((M.right_iff _).1 HF.out).1 y (List.mem_of_getElem? (i := k - 1) (by rw [List.getElem?_take, if_pos (by omega)]; exact hy))
          clear hc hy
          cases hls : M.less y z
          · have hcm : decide (0 ≤ M.cmp y z) = true := by simp [M.cmp_neg, hls]
            go_wp2_with (first | (go_at_call 160; refine (literal_any _ _).mono ?_; rintro e w' ⟨rfl, rfl⟩) | (go_at_call 168; refine (order_any _ _ _ hly hl).mono ?_; rintro e w' ⟨rfl, o, rfl⟩))
            go_ret
            refine ⟨ret_bool ?_, hb.alloc hb.size _⟩
            symm
            apply M.right_miss (k := k + 1)
            rw [M.right_step hk0 HY.out HZ.out HF.out, hls, Bool.and_false]
          · have hcm : decide (0 ≤ M.cmp y z) = false := by simp [M.cmp_neg, hls]
            go_wp2_with (first | (go_at_call 160; refine (literal_any _ _).mono ?_; rintro e w' ⟨rfl, rfl⟩) | (go_at_call 168; refine (order_any _ _ _ hly hl).mono ?_; rintro e w' ⟨rfl, o, rfl⟩))
            go_roundw
            case rel => exact ⟨k + 1, by omega, by go_num, by rw [M.right_step hk0 HY.out HZ.out HF.out, hls, hl]; rfl, hb.alloc hb.size _⟩
            case measure => simp [intOf]; omega
        · clear hc
          go_wp2_with (go_at_call 160; refine (literal_any _ _).mono ?_; rintro e w' ⟨rfl, rfl⟩)
          go_roundw
          case rel => exact ⟨k + 1, by omega, by go_num, by rw [M.right_zero hk0 HZ.out]; exact hl, hb⟩
          case measure => simp [intOf]; omega
    · go_wp2
      go_ret
      refine ⟨ret_bool ?_, hb⟩
      have := HF.out
      rw [List.take_of_length_le (by omega)] at this
      exact this.symm
end Go.Proofs.YtnmcajinaigcjaaGreatDoor.C
namespace Go.Proofs.YtnmcajinaigcjaaGreatDoor.C
open Go.RowKit

theorem Tryz.infoInt : (Tryz.prog.info? 3).map (fun i => (i.zero, i.size, i.bytes)) = some (some (.int .i64 0), 1, 8) := by kernel_rfl

/-- a slice that the call made, from block number base on -/
def OwnI (w : World) (base : Nat) (a : Option Addr) (c : Nat) (ys : List Int) : Prop :=
  w.ownsRow base 3 1 (.slice a ys.length c) ys.length (ys.map (Value.int .i64))

theorem OwnI.nil (w : World) (base : Nat) : OwnI w base none 0 [] := World.ownsRow_nil _ _ _ _
theorem OwnI.parts {w : World} {base : Nat} {a : Option Addr} {c : Nat} {ys : List Int} (h : OwnI w base a c ys) :
    (a = none ∧ c = 0 ∧ ys = []) ∨ ∃ g cur, a = some ⟨g, 0, none⟩ ∧ base ≤ g ∧ g < w.heap.size ∧ w.heap[g]? = some (.cells cur 3 (0, 0)) ∧ ys.length ≤ c ∧ c ≤ maxLen ∧ cur.size = c ∧ cur.toList.take ys.length = ys.map (Value.int .i64) := by
  rcases h.2 with ⟨e, hn⟩ | ⟨g, cap, cur, e, hb, hg, hn, hm, hs, ht⟩
  · injection e with e1 e2 e3
    exact .inl ⟨e1, e3, List.eq_nil_of_length_eq_zero e2⟩
  · injection e with e1 e2 e3
    subst e1 e3
    have hlt : g < w.heap.size := by
      rcases Nat.lt_or_ge g w.heap.size with h' | h'
      · exact h'
      · rw [Array.getElem?_eq_none h'] at hg; cases hg
    exact .inr ⟨g, cur, rfl, hb, hlt, hg, hn, hm, by simpa using hs, by simpa using ht⟩
theorem cell_of_cells {w : World} {g : Nat} {cur : Array Value} {e : TypeId} {m : Nat × Nat} (hg : w.heap[g]? = some (.cells cur e m)) (i : Nat) : w.cell? ⟨g, i, none⟩ = cur[i]? := by
  simp [World.cell?, hg]
theorem OwnI.ints {w : World} {base : Nat} {a : Option Addr} {c : Nat} {ys : List Int} (h : OwnI w base a c ys) (hw : ∀ z ∈ ys, I64 z) (hl : ys.length ≤ 17592186043904) : Ints w a ys := by
  refine ⟨fun h0 => ?_, hw, hl⟩
  rcases h.parts with ⟨_, _, rfl⟩ | ⟨g, cur, rfl, hb, hlt, hg, hn, hm, hs, ht⟩
  · simp at h0
  · refine ⟨g, 0, rfl, hlt, fun i z hz => ?_⟩
    rw [Nat.zero_add, cell_of_cells hg]
    have hi : i < ys.length := by
      rcases Nat.lt_or_ge i ys.length with h' | h'
      · exact h'
      · rw [List.getElem?_eq_none h'] at hz; cases hz
    have e1 : (cur.toList.take ys.length)[i]? = (ys.map (Value.int .i64))[i]? := by rw [ht]
    rw [List.getElem?_take, if_pos hi, List.getElem?_map, hz, Array.getElem?_toList] at e1
    exact e1
/-- the block, if there is one -/
theorem OwnI.kept {w w' : World} {base : Nat} {a : Option Addr} {c : Nat} {ys : List Int} (h : OwnI w base a c ys) (hk : ∀ g cur, g < w.heap.size → w.heap[g]? = some (.cells cur 3 (0, 0)) → w'.heap[g]? = w.heap[g]?) : OwnI w' base a c ys := by
  refine ⟨h.1, ?_⟩
  rcases h.2 with h0 | ⟨g, cap, cur, e, hb, hg, hn, hm, hs, ht⟩
  · exact .inl h0
  · have hlt : g < w.heap.size := by
      rcases Nat.lt_or_ge g w.heap.size with h' | h'
      · exact h'
      · rw [Array.getElem?_eq_none h'] at hg; cases hg
    exact .inr ⟨g, cap, cur, e, hb, (hk g cur hlt hg).trans hg, hn, hm, hs, ht⟩
theorem OwnI.below {w w' : World} {base : Nat} {a : Option Addr} {c : Nat} {ys : List Int} (h : OwnI w base a c ys) (hb : Below w.heap.size w w') : OwnI w' base a c ys :=
  h.kept fun g _ hlt _ => hb.block g hlt
theorem OwnI.alloc {w : World} {base : Nat} {a : Option Addr} {c : Nat} {ys : List Int} (h : OwnI w base a c ys) (o : Obj) : OwnI (w.alloc o) base a c ys := World.ownsRow.alloc h o

theorem Ints.one (w : World) (x : Int) (hx : I64 x) (e : TypeId) : Ints (w.alloc (.cells #[.int .i64 x] e)) (some ⟨w.heap.size, 0, none⟩) [x] := by
  refine ⟨fun _ => ⟨_, 0, rfl, by simp, fun i z hz => ?_⟩, fun z hz => by simp at hz; subst hz; exact hx, by simp⟩
  match i, hz with
  | 0, hz => simp at hz; subst hz; simp
theorem Ints.nil (w : World) (a : Option Addr) : Ints w a [] := ⟨fun h => by simp at h, fun z hz => by simp at hz, by simp⟩
theorem Ints.alloc {w : World} {a : Option Addr} {zs : List Int} (h : Ints w a zs) (o : Obj) : Ints (w.alloc o) a zs := h.below ((Below.refl _ _).alloc (Nat.le_refl _) o)

theorem addr_add (b off j : Nat) : (⟨b, off, none⟩ : Addr).add j = ⟨b, off + j, none⟩ := by
  unfold Addr.add; split
  · rename_i h; subst h; simp
  · rfl
theorem ownBlock_ge {w : World} {base : Nat} {a : Option Addr} {c : Nat} {ys : List Int} (h : OwnI w base a c ys) : ∀ k n, (Value.slice a n c).ownBlock = some k → base ≤ k := by
  intro k n hk
  rcases h.parts with ⟨rfl, _, _⟩ | ⟨g, cur, rfl, hb, _⟩
  · simp [Value.ownBlock] at hk
  · simp [Value.ownBlock] at hk; omega
/-- append(ys, zs...) where the call made ys -/
theorem wpList_append_Ints {w : World} {ops : Array Oper} {rest : List Oper} {o : Oper} {act : Act} {Q : Exit → Act → World → Prop} (hgd : o.guard = none) (s x : Operand) (t : TypeId)
    (ho : o.op = .call { callee := .builtin .append, args := #[s, x], argTypes := #[t, t] }) (ht : Tryz.prog.underlying t = some (.slice 3))
    (base : Nat) (a : Option Addr) (n c : Nat) (ys : List Int) (hs : act.eval s = .slice a n c) (hn : ys.length = n) (hown : OwnI w base a c ys)
    (b : Option Addr) (m d : Nat) (zs : List Int) (hx : act.eval x = .slice b m d) (hm : zs.length = m) (hz : Ints w b zs) (hd : b = none → d = 0)
    (hlen : n + m ≤ 17592186043904) (hbase : base ≤ w.heap.size)
    (h : ∀ a' c' w', OwnI w' base a' c' (ys ++ zs) → w.grownBy w' (Value.slice a n c).ownBlock → Below base w w' → wpList Tryz.prog ops Q rest (act.put o.dst (.slice a' (n + m) c')) w') :
    wpList Tryz.prog ops Q (o :: rest) act w := by
  subst hn hm
  obtain ⟨i0, hi, hz0, hz1, hz2⟩ := info_parts Tryz.infoInt
  have fin : ∀ v' w', w'.ownsRow base 3 1 v' (ys.length + zs.length) (ys.map (Value.int .i64) ++ zs.map (Value.int .i64)) → w.grownBy w' (Value.slice a ys.length c).ownBlock → wpList Tryz.prog ops Q rest (act.put o.dst v') w' := by
    intro v' w' h1 h2
    have hbel : Below base w w' := (Below.refl base w).grown h2 hbase (fun k hk => ownBlock_ge hown k _ hk)
    rw [← List.map_append, ← List.length_append] at h1
    have : ∃ a' c', v' = .slice a' (ys ++ zs).length c' := by
      rcases h1.2 with ⟨e, hn⟩ | ⟨g, cap, cur, e, _⟩
      · exact ⟨none, 0, by rw [e, hn]⟩
      · exact ⟨_, _, e⟩
    obtain ⟨a', c', rfl⟩ := this
    rw [show (ys ++ zs).length = ys.length + zs.length from List.length_append]
    exact h a' c' w' h1 h2 hbel
  cases b with
  | some ad =>
    refine wpList_append_own w hgd s x t ho base 3 i0 (.int .i64 0) 1 8 ht hi hz0 hz1 hz2 rfl (by decide) _ _ _ hs hown ad zs.length d (zs.map (Value.int .i64)) hx (by simp) ?_ ?_ ?_ ?_ hbase ?_
    · intro j u hj
      have hjl : j < zs.length := by
        rcases Nat.lt_or_ge j zs.length with h' | h'
        · exact h'
        · rw [List.getElem?_eq_none (by simpa using h')] at hj; cases hj
      obtain ⟨b', off, e, _, hc⟩ := hz.addr (by omega)
      cases e
      rw [List.getElem?_map, List.getElem?_eq_getElem hjl] at hj
      cases hj
      rw [addr_add]; exact hc j _ (List.getElem?_eq_getElem hjl)
    · intro u hu; simp at hu; obtain ⟨z, _, rfl⟩ := hu; rfl
    · unfold maxLen; omega
    · omega
    · intro v' w' h1 h2 _
      exact fin v' w' h1 h2
  | none =>
    have e0 : zs = [] := by
      cases zs with
      | nil => rfl
      | cons z l => obtain ⟨_, _, e, _⟩ := hz.addr (by simp); cases e
    subst e0
    obtain rfl := hd rfl
    refine wpList_append_own_none hgd s x t ho base 3 i0 1 ht hi _ _ _ hs hown hx ?_
    refine fin _ _ ?_ ⟨rfl, rfl, rfl, Nat.le_refl _, fun _ _ _ => rfl⟩
    have h' : w.ownsRow base 3 1 (.slice a ys.length c) ys.length (ys.map (Value.int .i64)) := hown
    simpa using h'
theorem OwnI.made0 (w : World) (base : Nat) (hb : base ≤ w.heap.size) : OwnI (w.alloc (.cells #[] 3)) base (some ⟨w.heap.size, 0, none⟩) 0 [] :=
  World.ownsRow_made w #[] 0 hb (by decide) rfl
theorem OwnI.cap {w : World} {base : Nat} {a : Option Addr} {c : Nat} {ys : List Int} (h : OwnI w base a c ys) : ys.length ≤ c ∧ (a = none → c = 0) := by
  rcases h.parts with ⟨rfl, rfl, rfl⟩ | ⟨g, cur, rfl, hb, hlt, hg, hn, hm, hs, ht⟩
  · exact ⟨Nat.le_refl _, fun _ => rfl⟩
  · exact ⟨hn, fun h => by cases h⟩

theorem put_below1 {w w1 : World} {o : Obj} (h : Below w.heap.size (w.alloc o) w1) : Below w.heap.size w w1 := ((Below.refl _ _).alloc (Nat.le_refl _) o).trans h
theorem put_size1 {w w1 : World} {o : Obj} (h : Below w.heap.size w w1) : w.heap.size ≤ (w1.alloc o).heap.size := by have := h.size; simp; omega
theorem put_below2 {w w1 w2 : World} {o : Obj} (h : Below w.heap.size w w1) (h2 : Below w.heap.size (w1.alloc o) w2) : Below w.heap.size w w2 := (h.alloc h.size o).trans h2
/-- a new list is handed back; nothing that was there has turned -/
def NewInts (w : World) (ys : List Int) (e : Ending) (w' : World) : Prop :=
  ∃ a' c', e = .returned (.slice a' ys.length c') ∧ Ints w' a' ys ∧ (ys.length ≤ c') ∧ (a' = none → c' = 0) ∧ Below w.heap.size w w'
/-- it lies among ints -/
def TagI (w : World) (a : Option Addr) : Prop := ∀ ad, a = some ad → ∃ cur m, w.heap[ad.block]? = some (.cells cur 3 m)
theorem TagI.none (w : World) : TagI w none := fun _ h => by cases h
theorem TagI.below {w w' : World} {a : Option Addr} (h : TagI w a) (hb : Below w.heap.size w w') : TagI w' a := fun ad e => by
  obtain ⟨cur, m, hc⟩ := h ad e
  exact ⟨cur, m, (hb.block _ (Array.getElem?_eq_some_iff.1 hc).1).trans hc⟩
/-- blocks that are there -/
def XLt (X : Nat → Prop) (w : World) : Prop := ∀ k, X k → k < w.heap.size
theorem XLt.mono {X : Nat → Prop} {w w' : World} (h : XLt X w) (hs : w.heap.size ≤ w'.heap.size) : XLt X w' := fun k hk => Nat.lt_of_lt_of_le (h k hk) hs
/-- it lies in no block of X -/
def OffX (X : Nat → Prop) (a : Option Addr) : Prop := ∀ ad, a = some ad → ¬ X ad.block
theorem OffX.none (X : Nat → Prop) : OffX X Option.none := fun _ h => by cases h
/-- no block -/
def NoX : Nat → Prop := fun _ => False
theorem NoX.lt (w : World) : XLt NoX w := fun _ h => h.elim
theorem NoX.off (a : Option Addr) : OffX NoX a := fun _ _ h => h
/-- it lies among ints, in no block of X -/
structure TagX (X : Nat → Prop) (w : World) (a : Option Addr) : Prop where
  off : OffX X a
  tag : TagI w a
theorem TagX.below {X : Nat → Prop} {w w' : World} {a : Option Addr} (h : TagX X w a) (hb : Below w.heap.size w w') : TagX X w' a := ⟨h.off, h.tag.below hb⟩
/-- it lies among ints, from block number n on -/
structure TagN (n : Nat) (w : World) (a : Option Addr) : Prop where
  new : ∀ ad, a = some ad → n ≤ ad.block
  tag : TagI w a
theorem TagN.none (n : Nat) (w : World) : TagN n w Option.none := ⟨(fun _ h => by cases h), TagI.none _⟩
theorem TagN.x {X : Nat → Prop} {w0 w : World} {a : Option Addr} (h : TagN w0.heap.size w a) (hX : XLt X w0) : TagX X w a := ⟨fun ad e hx => by have := h.new ad e; have := hX _ hx; omega, h.tag⟩
theorem TagN.below {n : Nat} {w w' : World} {a : Option Addr} (h : TagN n w a) (hb : Below w.heap.size w w') : TagN n w' a := ⟨h.new, h.tag.below hb⟩
theorem OwnI.tagN {w : World} {base c : Nat} {a : Option Addr} {ys : List Int} (h : OwnI w base a c ys) : TagN base w a := by
  refine ⟨fun ad e => ?_, fun ad e => ?_⟩
  · rcases h.parts with ⟨e0, _⟩ | ⟨g, cur, e0, hb, _⟩
    · rw [e0] at e; cases e
    · rw [e0] at e; cases e; exact hb
  · rcases h.parts with ⟨e0, _⟩ | ⟨g, cur, e0, hb, hlt, hg, _⟩
    · rw [e0] at e; cases e
    · rw [e0] at e; cases e; exact ⟨cur, _, hg⟩
/-- a new list is handed back, among ints -/
def NewIntsT (w : World) (ys : List Int) (e : Ending) (w' : World) : Prop :=
  ∃ a' c', e = .returned (.slice a' ys.length c') ∧ Ints w' a' ys ∧ (ys.length ≤ c') ∧ (a' = Option.none → c' = 0) ∧ Below w.heap.size w w' ∧ TagN w.heap.size w' a'
theorem sizeInt (w : World) : (sizeOf 3).run Tryz.prog w = .ok 1 w := by kernel_rfl
/-- s[k:] -/
theorem slice_from {w : World} (t : TypeId) (ht : Tryz.prog.underlying t = some (.slice 3)) {a : Option Addr} {zs : List Int} (c k : Nat) (hz : Ints w a zs) (hk : k ≤ zs.length) (hc : zs.length ≤ c) (hd : a = none → c = 0) :
    ∃ a', (∀ wx, (Instr.slice t (.slice a zs.length c) (some (.int .i64 k)) none none).run Tryz.prog wx = .ok (.slice a' (zs.length - k) (c - k)) wx) ∧ Ints w a' (zs.drop k) ∧ (a' = none → c - k = 0) := by
  have he : Tryz.prog.elem t = 3 := by simp [Program.elem, ht]
  refine ⟨if c = k then a else a.map (·.add k), fun wx => ?_, ⟨fun h0 => ?_, fun z hz' => hz.wf z (List.mem_of_mem_drop hz'), by have := hz.len; simp; omega⟩, fun h => ?_⟩
  · rw [run_slice_l wx t a zs.length c (by rw [he]; exact ht) .i64 k (by omega) (by omega), he, sizeInt]
    simp [Result.andThen, sliced]
  · have h1 : 0 < zs.length := by simp at h0; omega
    obtain ⟨b, off, rfl, hlt, hcell⟩ := hz.addr h1
    have hne : c ≠ k := by simp at h0; omega
    refine ⟨b, off + k, by rw [if_neg hne]; simp [addr_add], hlt, fun i z hi => ?_⟩
    rw [List.getElem?_drop] at hi
    have := hcell _ _ hi
    rwa [← Nat.add_assoc] at this
  · split at h
    · omega
    · have : a = none := by cases a <;> simp_all
      have := hd this; omega
/-- s[:k] -/
theorem slice_to {w : World} (t : TypeId) (ht : Tryz.prog.underlying t = some (.slice 3)) {a : Option Addr} {zs : List Int} (c k : Nat) (hz : Ints w a zs) (hk : k ≤ zs.length) (hc : zs.length ≤ c) (hd : a = none → c = 0) :
    (∀ wx, (Instr.slice t (.slice a zs.length c) none (some (.int .i64 k)) none).run Tryz.prog wx = .ok (.slice a k c) wx) ∧ Ints w a (zs.take k) := by
  have he : Tryz.prog.elem t = 3 := by simp [Program.elem, ht]
  refine ⟨fun wx => ?_, ⟨fun h0 => ?_, fun z hz' => hz.wf z (List.mem_of_mem_take hz'), by have := hz.len; simp; omega⟩⟩
  · rw [run_slice_h wx t a zs.length c (by rw [he]; exact ht) .i64 k (by omega) (by omega), he, sizeInt]
    cases a with
    | none => have := hd rfl; simp [Result.andThen, sliced]
    | some a => simp [Result.andThen, sliced, Addr.add]
  · have h1 : 0 < zs.length := by simp at h0; omega
    obtain ⟨b, off, rfl, hlt, hcell⟩ := hz.addr h1
    refine ⟨b, off, rfl, hlt, fun i z hi => hcell i z ?_⟩
    rw [List.getElem?_take] at hi
    split at hi
    · exact hi
    · cases hi
end Go.Proofs.YtnmcajinaigcjaaGreatDoor.C
namespace Go.Proofs.YtnmcajinaigcjaaGreatDoor.C
open Go.RowKit Go.Sort Go.Shelf

theorem M.sorted_compactUpTo (d : Array Int) (hs : ∀ i j, i < j → j < d.size → M.less d[j]! d[i]! = false) : ∀ m, m ≤ d.size →
    M.Sorted (Lib.compactUpTo d m) ∧ (∀ y, y ∈ Lib.compactUpTo d m ↔ ∃ j, j < m ∧ d[j]! = y) ∧ (∀ y ∈ Lib.compactUpTo d m, 0 < m → y = d[m - 1]! ∨ M.less y d[m - 1]! = true)
  | 0, _ => ⟨List.Pairwise.nil, fun y => by simp [Lib.compactUpTo], fun y hy => by simp [Lib.compactUpTo] at hy⟩
  | m + 1, hm => by
    obtain ⟨h1, h2, h3⟩ := M.sorted_compactUpTo d hs m (by omega)
    rw [Lib.compactUpTo_succ]
    by_cases hk : Lib.keeps d m = true
    · rw [if_pos hk]
      have hlast : ∀ y ∈ Lib.compactUpTo d m, M.less y d[m]! = true := by
        intro y hy
        obtain ⟨j, hj, _⟩ := (h2 y).1 hy
        have hm0 : 0 < m := by omega
        have hne : d[m]! ≠ d[m - 1]! := by
          intro e; rw [Lib.keeps_neg hm0 e] at hk; cases hk
        have hle := hs (m - 1) m (by omega) (by omega)
        have hlt : M.less d[m - 1]! d[m]! = true := by
          cases hh : M.less d[m - 1]! d[m]!
          · exact absurd (M.less_total hle hh) hne
          · rfl
        rcases h3 y hy hm0 with e | e
        · rw [e]; exact hlt
        · exact M.less_trans e hlt
      refine ⟨List.pairwise_append.2 ⟨h1, by simp, fun x hx y hy => ?_⟩, fun y => ?_, fun y hy _ => ?_⟩
      · simp at hy; subst hy; exact hlast x hx
      · rw [List.mem_append, h2]; simp only [List.mem_singleton]
        constructor
        · rintro (⟨j, hj, e⟩ | e)
          · exact ⟨j, by omega, e⟩
          · exact ⟨m, by omega, e.symm⟩
        · rintro ⟨j, hj, e⟩
          by_cases hjm : j = m
          · subst hjm; exact .inr e.symm
          · exact .inl ⟨j, by omega, e⟩
      · rw [Nat.add_sub_cancel]
        rcases List.mem_append.1 hy with hy | hy
        · exact .inr (hlast y hy)
        · simp at hy; exact .inl hy
    · rw [if_neg hk, List.append_nil]
      have hm0 : 0 < m := by
        rcases Nat.eq_zero_or_pos m with e | e
        · subst e; exact absurd (Lib.keeps_lt_one d 0 (by omega)) hk
        · exact e
      have he : d[m]! = d[m - 1]! := by
        rcases Decidable.em (d[m]! = d[m - 1]!) with e | e
        · exact e
        · exact absurd (Lib.keeps_pos e) hk
      refine ⟨h1, fun y => ?_, fun y hy _ => ?_⟩
      · rw [h2]
        constructor
        · rintro ⟨j, hj, e⟩; exact ⟨j, by omega, e⟩
        · rintro ⟨j, hj, e⟩
          by_cases hjm : j = m
          · subst hjm; exact ⟨j - 1, by omega, by rw [← e, he]⟩
          · exact ⟨j, by omega, e⟩
      · rw [Nat.add_sub_cancel, he]; exact h3 y hy hm0
theorem M.compact_norm {zs ss : List Int} (hs : ss.Pairwise (fun x y => M.less y x = false)) (hm : ∀ x, x ∈ ss ↔ x ∈ zs) : Lib.compact ss = M.norm zs := by
  have h := M.sorted_compactUpTo ss.toArray (fun i j hij hj => by
    have hj' : j < ss.length := by simpa using hj
    have := List.pairwise_iff_getElem.1 hs i j (by omega) hj' hij
    simpa [getElem!_pos, hj', show i < ss.length by omega] using this) ss.length (by simp)
  refine M.norm_of_mem zs h.1 fun x => ?_
  rw [Lib.compact, h.2.1, ← hm]
  constructor
  · rintro ⟨j, hj, e⟩
    rw [← e]; simp [getElem!_pos, hj]
  · intro hx
    obtain ⟨j, hj, e⟩ := List.getElem_of_mem hx
    exact ⟨j, hj, by simpa [getElem!_pos, hj] using e⟩

/-- literals -/
abbrev Lt := { x : Int // M.isLit x = true }
instance : Inhabited Lt := ⟨⟨1, rfl⟩⟩
def encL (x : Lt) : Value := .int .i64 x.1
theorem encL_one : OneCell encL := fun _ => rfl
def cfL (x y : Lt) : Int := M.cmp x.1 y.1
theorem ltOf_cfL (x y : Lt) : ltOf cfL x y = M.less x.1 y.1 := by
  rw [ltOf, cfL, Bool.eq_iff_iff, decide_eq_true_iff, M.cmp_less]
theorem swoL : SWO (ltOf cfL) := by
  refine ⟨fun x => ?_, fun x y z h1 h2 => ?_, fun x y z h1 h2 => ?_⟩
  · rw [ltOf_cfL]; exact M.less_irrefl _
  · rw [ltOf_cfL] at *; exact M.less_trans h1 h2
  · rw [ltOf_cfL, M.less_false] at *; omega
def toLt (zs : List Int) (h : ∀ z ∈ zs, M.isLit z = true) : List Lt := zs.pmap (fun z hz => ⟨z, hz⟩) h
theorem toLt_val (zs : List Int) (h : ∀ z ∈ zs, M.isLit z = true) : (toLt zs h).map (·.1) = zs := by
  simp [toLt, List.map_pmap]
theorem toLt_length (zs : List Int) (h : ∀ z ∈ zs, M.isLit z = true) : (toLt zs h).length = zs.length := by simp [toLt]
theorem holds_val {w : World} {g : Nat} {d : List Lt} (h : Holds encL w g 0 d.toArray) : Holds (Value.int .i64) w g 0 (d.map (·.1)).toArray := by
  intro j hj
  have hj' : j < d.length := by simpa using hj
  have := h j (by simpa using hj')
  simpa [getElem!_pos, hj', encL] using this
theorem holds_lt {w : World} {g : Nat} {d : List Lt} (h : Holds (Value.int .i64) w g 0 (d.map (·.1)).toArray) : Holds encL w g 0 d.toArray := by
  intro j hj
  have hj' : j < d.length := by simpa using hj
  have := h j (by simpa using hj')
  simpa [getElem!_pos, hj', encL] using this
theorem below_grow {B : Nat} {w0 w : World} (h : Below B w0 w) (hB : B ≤ w.heap.size) (os : Array Obj) : Below B w0 (grow w os) :=
  h.trans ⟨rfl, rfl, rfl, by simp [grow], fun k hk => by simp [grow, Array.getElem?_append, show k < w.heap.size by omega]⟩
theorem cmpLays (g size : Nat) (w : World) : CmpLays1 Tryz.prog 168 #[] encL cfL g 0 size w := by
  intro m os dk _ x y
  refine (order_any x.1 y.1 _ x.2 y.2).mono ?_
  rintro e w' ⟨rfl, o, rfl⟩
  exact ⟨rfl, 0, #[o], by rw [alloc_eq_grow]; rfl⟩
/-- behind the sort and the compacting -/
theorem sorted_tail {w w1 : World} {g nn : Nat} {os : Array Obj} {zs : List Int} (hl : ∀ z ∈ zs, M.isLit z = true) (hb : Below w.heap.size w w1) (hg : w.heap.size ≤ g) (hgl : g < w1.heap.size)
    {ts : List Lt} (hH : Holds encL w1 g 0 (toLt zs hl).toArray) (hts : ts.length = zs.length) :
    Holds (Value.int .i64) (sortWorld encL w1 g 0 nn ts.toArray os) g 0 (ts.map (·.1)).toArray ∧ Below w.heap.size w (sortWorld encL w1 g 0 nn ts.toArray os) ∧ g < (sortWorld encL w1 g 0 nn ts.toArray os).heap.size := by
  have hH2 : Holds encL (sortWorld encL w1 g 0 nn ts.toArray os) g 0 ts.toArray :=
    holds_grow encL _ os g 0 _ (by simpa [putRow, mapBlock, Sort.ahead] using hgl) (holds_putRow encL _ g 0 _ _ (holds_ahead encL w1 nn g 0 _ hH) (by simp [hts, toLt_length]))
  refine ⟨holds_val hH2, below_grow (Lib.below_putRow hb hg) (by simpa [putRow, mapBlock, Sort.ahead] using hb.size) os, ?_⟩
  simp [sortWorld, grow, putRow, mapBlock, Sort.ahead]; omega
theorem heap_sortWorld {α : Type} [Inhabited α] (enc : α → Value) {w : World} {g n : Nat} {os : Array Obj} {cur : Array Value} {e : TypeId} {fr : Nat × Nat} (d : Array α) (hb : w.heap[g]? = some (.cells cur e fr)) :
    ∃ cur', (sortWorld enc w g 0 n d os).heap[g]? = some (.cells cur' e fr) := by
  have hg : g < w.heap.size := (Array.getElem?_eq_some_iff.1 hb).1
  unfold sortWorld
  rw [heap_grow_old _ _ (by simpa [putRow, mapBlock, Sort.ahead] using hg)]
  exact ⟨_, by simp [putRow, mapBlock, Sort.ahead, Array.getElem?_modify, hb, onCells]; rfl⟩
theorem sorted_end {w w2 : World} {g cap q : Nat} {zs ss : List Int} (hl : ∀ z ∈ zs, M.isLit z = true) (hc : Lib.compact ss = M.norm zs) (hb : Below w.heap.size w w2) (hg : w.heap.size ≤ g) (hgl : g < w2.heap.size)
    (hH : Holds (Value.int .i64) w2 g 0 ss.toArray) (hss : ss.length = zs.length) (hcap : zs.length ≤ cap) (hsm : zs.length ≤ 17592186043904) (htag : ∃ cur, w2.heap[g]? = some (.cells cur 3 (0, 0))) :
    NewIntsT w (M.norm zs) (.returned (.slice (some ⟨g, 0, none⟩) (Lib.compact ss).length cap)) (putRow (Value.int .i64) (Sort.ahead w2 q) g 0 (Lib.compact ss ++ List.replicate (ss.length - (Lib.compact ss).length) 0).toArray) := by
  have hle : (Lib.compact ss).length ≤ ss.length := Lib.compact_length_le ss
  have hln : (M.norm zs).length ≤ zs.length := M.norm_length zs
  have hH2 := holds_putRow (Value.int .i64) (Sort.ahead w2 q) g 0 ss.toArray (Lib.compact ss ++ List.replicate (ss.length - (Lib.compact ss).length) 0).toArray (holds_ahead _ w2 q g 0 _ hH) (by simp; omega)
  refine ⟨_, _, by rw [hc], ⟨fun _ => ⟨g, 0, rfl, by simpa [putRow, mapBlock, Sort.ahead] using hgl, fun i z hz => ?_⟩, fun z hz => I64.of_lit (hl z ((M.mem_norm zs z).1 hz)), by omega⟩, by omega, (fun h => by cases h), Lib.below_putRow hb hg, (fun ad e => by cases e; exact hg), fun ad e => ?_⟩
  rotate_left
  · cases e
    obtain ⟨cur, hcur⟩ := htag
    exact ⟨_, (0, 0), by simp [putRow, mapBlock, Sort.ahead, Array.getElem?_modify, hcur, onCells]; rfl⟩
  have hi : i < (M.norm zs).length := by
    rcases Nat.lt_or_ge i (M.norm zs).length with h' | h'
    · exact h'
    · rw [List.getElem?_eq_none h'] at hz; cases hz
  rw [← hc] at hz hi
  have h := (hH2 i (by simp; omega)).1
  rw [h]
  have e : (Lib.compact ss ++ List.replicate (ss.length - (Lib.compact ss).length) (0 : Int)).toArray[i]! = z := by
    rw [getElem!_pos _ i (by simp; omega)]
    have := List.getElem?_append_left (l₂ := List.replicate (ss.length - (Lib.compact ss).length) (0 : Int)) hi
    rw [hz] at this
    simp only [List.getElem_toArray]
    exact (List.getElem?_eq_some_iff.1 this).2
  rw [e]
def M.ms (d : List Lt) : List Lt := d.mergeSort fun x y => !(ltOf cfL) y x
theorem M.ms_pairwise (d : List Lt) : ((M.ms d).map (·.1)).Pairwise (fun x y => M.less y x = false) := by
  rw [List.pairwise_map]
  have h := List.pairwise_mergeSort (le := fun x y => !(ltOf cfL) y x) (fun a b c h1 h2 => by
      simp only [Bool.not_eq_true'] at *; exact swoL.ntrans c b a h2 h1) (fun a b => by
      simp only [Bool.or_eq_true, Bool.not_eq_true', ltOf_cfL]
      cases hh : M.less b.1 a.1
      · exact .inl rfl
      · exact .inr (M.less_asymm hh)) d
  exact h.imp fun h => by simpa [ltOf_cfL] using h
theorem M.ms_mem (d : List Lt) (x : Int) : x ∈ (M.ms d).map (·.1) ↔ x ∈ d.map (·.1) := by
  simp [M.ms]
theorem M.ms_length (d : List Lt) : (M.ms d).length = d.length := by simp [M.ms]
theorem clone_sort {w w1 : World} {v : Value} {zs : List Int} (hl : ∀ z ∈ zs, M.isLit z = true) (hown : w1.ownsRow w.heap.size 3 1 v zs.length (zs.map (Value.int .i64))) (hnn : v ≠ .slice none 0 0) :
    ∃ g cap, v = .slice (some ⟨g, 0, none⟩) zs.length cap ∧ w.heap.size ≤ g ∧ g < w1.heap.size ∧ zs.length ≤ cap ∧ Holds encL w1 g 0 (toLt zs hl).toArray ∧ ∃ cur, w1.heap[g]? = some (.cells cur 3 (0, 0)) := by
  obtain ⟨g, cap, rfl, hbg, hgl, hncap, _, _, hH⟩ := Lib.holds_of_ownsRow hown hnn
  refine ⟨g, cap, rfl, hbg, hgl, hncap, holds_lt (by rw [toLt_val]; exact hH), ?_⟩
  rcases hown.2 with ⟨e0, _⟩ | ⟨g', cap', cur, e0, _, hg', _⟩
  · cases e0
  · injection e0 with e1
    injection e1 with e1
    injection e1 with e1
    subst e1
    exact ⟨cur, hg'⟩
set_option maxHeartbeats 1000000 in
theorem sorted_some (ad : Addr) (c : Nat) (zs : List Int) (w : World) (hz : Ints w (some ad) zs) (hl : ∀ z ∈ zs, M.isLit z = true) (h0 : 0 < zs.length) :
    Calls Tryz.prog 161 #[.slice (some ad) zs.length c] w (NewIntsT w (M.norm zs)) := by
  have hlen := hz.len
  obtain ⟨b, off, e, hbl, hcl⟩ := hz.addr h0
  cases e
  have hclone := Tryz.slices_Clone_int b off zs.length c zs w (Nat.le_refl _) (by omega) (fun j hj => by
    rw [List.getD_eq_getElem?_getD, List.getElem?_eq_getElem hj]; exact hcl j _ (List.getElem?_eq_getElem hj))
  rw [List.take_of_length_le (Nat.le_refl _)] at hclone
  have HCL := Lib.hid hclone
  have HL := Lib.hid hl
  clear hclone hcl hz hl
  go_enter Tryz.func161, Tryz.ntmps161
  go_wp2_with fail
  refine HCL.out.mono ?_
  rintro e w1 ⟨v', rfl, hown, hnn, hb1⟩
  obtain ⟨g, cap, rfl, hg, hgl, hcap, hH, cur, hcur⟩ := clone_sort HL.out hown hnn
  have HCUR := Lib.hid hcur
  have HB1 := Lib.hid hb1
  have HH := Lib.hid hH
  clear hown hnn hb1 hH hcur
  have hsort := Tryz.slices_SortFunc_total_f55 encL encL_one cfL swoL 168 #[] g 0 cap (toLt zs HL.out).toArray w1 (enters_of Tryz.func168 (by kernel_rfl) rfl) (cmpLays g _ w1) HH.out hgl (by simp [toLt_length]; omega) (fun x y h1 h2 => by
    rw [ltOf_cfL] at h1 h2; exact Subtype.ext (M.less_total h1 h2))
  simp only [List.size_toArray, toLt_length] at hsort
  have HS := Lib.hid hsort
  clear hsort
  go_wp2_with fail
  refine HS.out.mono ?_
  rintro e w2 ⟨rfl, nn, os, rfl⟩
  have hts : (M.ms (toLt zs HL.out)).length = zs.length := by rw [M.ms_length, toLt_length]
  obtain ⟨hH2, hb2, hgl2⟩ := sorted_tail (nn := nn) (os := os) HL.out HB1.out hg hgl HH.out hts
  have hcn : Lib.compact ((M.ms (toLt zs HL.out)).map (·.1)) = M.norm zs := M.compact_norm (M.ms_pairwise _) (fun x => by rw [M.ms_mem, toLt_val])
  have hcomp := Tryz.slices_Compact_int g 0 cap ((M.ms (toLt zs HL.out)).map (·.1)) _ hH2 (by simp [hts]; omega) (by simp [hts]; omega)
  rw [List.length_map, hts] at hcomp
  have HC := Lib.hid hcomp
  have HB2 := Lib.hid hb2
  have HH2 := Lib.hid hH2
  have HCN := Lib.hid hcn
  have HTS := Lib.hid hts
  clear hcomp hb2 hH2 hcn hts
  go_wp2_with fail
  refine HC.out.mono ?_
  rintro e w3 ⟨rfl, q, rfl⟩
  go_wp2_with fail
  go_ret
  have := sorted_end (q := q) HL.out HCN.out HB2.out hg hgl2 HH2.out (by rw [List.length_map]; exact HTS.out) hcap hlen (heap_sortWorld _ _ HCUR.out)
  rw [List.length_map, HTS.out] at this
  exact this
end Go.Proofs.YtnmcajinaigcjaaGreatDoor.C
namespace Go.Proofs.YtnmcajinaigcjaaGreatDoor.C
open Go.RowKit Go.Sort Go.Shelf

theorem sorted_zero (ad : Addr) (c : Nat) (w : World) : Calls Tryz.prog 161 #[.slice (some ad) 0 c] w (NewIntsT w []) := by
  have HCL := Lib.hid (Tryz.slices_Clone_int_zero ad c w)
  go_enter Tryz.func161, Tryz.ntmps161
  go_wp2_with fail
  refine HCL.out.mono ?_
  rintro e w1 ⟨v', rfl, hown, hnn, hb1⟩
  obtain ⟨g, cap, rfl, hbg, hgl, hncap, _, _, hH⟩ := Lib.holds_of_ownsRow (enc := Value.int .i64) (zs := []) hown hnn
  have HB1 := Lib.hid hb1
  obtain ⟨cur, hcur⟩ : ∃ cur, w1.heap[g]? = some (.cells cur 3 (0, 0)) := by
    rcases hown.2 with ⟨e0, _⟩ | ⟨g', cap', cur, e0, _, hg', _⟩
    · cases e0
    · injection e0 with e1
      injection e1 with e1
      injection e1 with e1
      subst e1
      exact ⟨cur, hg'⟩
  have HCUR := Lib.hid hcur
  clear hown hnn hb1 hH hcur
  go_wp2_with fail
  refine (Tryz.slices_SortFunc_none_f55 (α := Int) _ _ _ _).mono ?_
  rintro e w2 ⟨rfl, rfl⟩
  go_wp2_with fail
  refine (Tryz.slices_Compact_int_empty _ _ _).mono ?_
  rintro e w3 ⟨rfl, rfl⟩
  go_wp2_with fail
  go_ret
  exact ⟨_, _, rfl, Ints.nil _ _, Nat.zero_le _, (fun h => by cases h), HB1.out, (fun ad e => by cases e; exact hbg), fun ad e => by cases e; exact ⟨_, _, HCUR.out⟩⟩
theorem sorted_nil (c : Nat) (w : World) : Calls Tryz.prog 161 #[.slice none 0 c] w (NewIntsT w []) := by
  go_enter Tryz.func161, Tryz.ntmps161
  go_wp2_with fail
  refine (Tryz.slices_Clone_int_nil _ _ _).mono ?_
  rintro e w2 ⟨rfl, rfl⟩
  go_wp2_with fail
  refine (Tryz.slices_SortFunc_none_f55 (α := Int) _ _ _ _).mono ?_
  rintro e w2 ⟨rfl, rfl⟩
  go_wp2_with fail
  refine (Tryz.slices_Compact_int_empty _ _ _).mono ?_
  rintro e w3 ⟨rfl, rfl⟩
  go_wp2_with fail
  go_ret
  exact ⟨_, _, rfl, Ints.nil _ _, Nat.zero_le _, (fun _ => rfl), Below.refl _ _, TagN.none _ _⟩
theorem Ints.none_nil {w : World} {zs : List Int} (h : Ints w none zs) : zs = [] := by
  cases zs with
  | nil => rfl
  | cons z l => obtain ⟨_, _, e, _⟩ := h.addr (by simp); cases e
theorem sorted_any (a : Option Addr) (c : Nat) (zs : List Int) (w : World) (hz : Ints w a zs) (hl : ∀ z ∈ zs, M.isLit z = true) :
    Calls Tryz.prog 161 #[.slice a zs.length c] w (NewIntsT w (M.norm zs)) := by
  cases a with
  | none => obtain rfl := hz.none_nil; exact sorted_nil c w
  | some ad =>
    cases zs with
    | nil => exact sorted_zero ad c w
    | cons z l => exact sorted_some ad c _ w hz hl (by simp)

theorem bDrewN (B : Nat) (w : World) (q : Nat) : Below B w (w.drewN q) := ⟨rfl, rfl, rfl, Nat.le_refl _, fun _ _ => rfl⟩
/-- the error's two words -/
def errV (t : TypeId) (p : Addr) : Value := .iface t (.pointer (some p))
/-- what Norm hands back -/
def NormOk (w : World) (ys : List Int) (e : Ending) (w' : World) : Prop :=
  ∃ a' c', e = .returned (.tuple #[.slice a' ys.length c', .nilIface]) ∧ Ints w' a' ys ∧ (ys.length ≤ c') ∧ (a' = none → c' = 0) ∧ Below w.heap.size w w' ∧ TagN w.heap.size w' a'
theorem norm_ok (a : Option Addr) (c : Nat) (zs : List Int) (w : World) (hz : Ints w a zs) (hl : ∀ z ∈ zs, M.isLit z = true) :
    Calls Tryz.prog 140 #[.slice a zs.length c] w (NormOk w (M.norm zs)) := by
  have hlen := hz.len
  have HL := Lib.hid hl
  clear hl
  go_enter Tryz.func140, Tryz.ntmps140
  go_wp2
  go_loop [5, 8] (fun _ i => ∃ k : Nat, k ≤ zs.length ∧ i = .int .i64 k) (fun _ i => zs.length - (intOf i).toNat)
  case atStart => exact ⟨0, Nat.zero_le _, rfl⟩
  case round =>
    obtain ⟨k, hk, rfl⟩ := hrel
    by_cases hlt : k < zs.length
    · obtain ⟨b, off, rfl, hbl, hc⟩ := hz.addr (by omega)
      obtain ⟨z, hzk⟩ : ∃ z, zs[k]? = some z := ⟨zs[k], by simp [hlt]⟩
      have hcell := hc k z hzk
      have hlz := HL.out z (List.mem_of_getElem? hzk)
      clear hc hzk
      go_wp2_with (go_at_call 160; refine (literal_any _ _).mono ?_; rintro e w' ⟨rfl, rfl⟩)
      go_round
      case rel => exact ⟨k + 1, by omega, by go_num⟩
      case measure => simp [intOf]; omega
    · go_wp2_with (go_at_call 161; refine (sorted_any _ _ _ _ hz HL.out).mono ?_; rintro e w' ⟨a', c', rfl, h1, h2, h3, h4, h5⟩)
      go_ret2
      exact ⟨_, _, rfl, h1, h2, h3, h4, h5⟩
theorem norm_bad (a : Option Addr) (c : Nat) (zs : List Int) (w : World) (v : Value) (hz : Ints w a zs) (hl : ∃ z ∈ zs, M.isLit z = false) (hv : w.cell? ⟨1, 0, none⟩ = some v) :
    Calls Tryz.prog 140 #[.slice a zs.length c] w fun e w' => e = .returned (.tuple #[.slice none 0 0, v]) ∧ ∃ q, w' = w.drewN q := by
  have hlen := hz.len
  have HL := Lib.hid hl
  clear hl
  go_enter Tryz.func140, Tryz.ntmps140
  go_wp2
  go_loop [5, 8] (fun _ i => ∃ k : Nat, k ≤ zs.length ∧ i = .int .i64 k ∧ ∀ z ∈ zs.take k, M.isLit z = true) (fun _ i => zs.length - (intOf i).toNat)
  case atStart => exact ⟨0, Nat.zero_le _, rfl, fun z hz => by simp at hz⟩
  case round =>
    obtain ⟨k, hk, rfl, hf⟩ := hrel
    have HF := Lib.hid hf
    clear hf
    by_cases hlt : k < zs.length
    · obtain ⟨b, off, rfl, hbl, hc⟩ := hz.addr (by omega)
      obtain ⟨z, hzk⟩ : ∃ z, zs[k]? = some z := ⟨zs[k], by simp [hlt]⟩
      have hcell := hc k z hzk
      have HZ := Lib.hid hzk
      clear hc hzk
      cases hlz : M.isLit z
      · go_wp2_with (go_at_call 160; refine (literal_any _ _).mono ?_; rintro e w' ⟨rfl, rfl⟩)
        go_quiet (fail)
        go_wp2
        go_ret2
        exact ⟨rfl, _, rfl⟩
      · go_wp2_with (go_at_call 160; refine (literal_any _ _).mono ?_; rintro e w' ⟨rfl, rfl⟩)
        go_round
        case rel =>
          refine ⟨k + 1, by omega, by go_num, fun y hy => ?_⟩
          rw [List.take_add_one, HZ.out] at hy
          rcases List.mem_append.1 hy with hy | hy
          · exact HF.out y hy
          · simp at hy; subst hy; exact hlz
        case measure => simp [intOf]; omega
    · exfalso
      obtain ⟨z, hm, hl⟩ := HL.out
      have := HF.out z (by rw [List.take_of_length_le (by omega)]; exact hm)
      rw [hl] at this; cases this
theorem only_any (a : Option Addr) (c : Nat) (zs : List Int) (w : World) (hz : Ints w a zs) (hc : zs.length ≤ c) (hd : a = none → c = 0) :
    Calls Tryz.prog 162 #[.slice a zs.length c] w (NewInts w (M.only zs)) := by
  have hlen := hz.len
  cases hr : M.right zs
  · go_enter Tryz.func162, Tryz.ntmps162
    go_wp2_with (go_at_call 170; refine (right_any _ _ _ _ hz).mono ?_; rintro e w1 ⟨rfl, hb⟩)
    have HB := Lib.hid hb
    clear hb
    go_loopw [3, 5, 11] (fun v _ i wr => ∃ (k n : Nat) (a' : Option Addr) (c' : Nat), k ≤ zs.length ∧ i = .int .i64 k ∧ v = .slice a' n c' ∧ n = ((zs.take k).filter M.isLit).length ∧ OwnI wr w.heap.size a' c' ((zs.take k).filter M.isLit) ∧ Below w.heap.size w wr) (fun _ _ i _ => zs.length - (intOf i).toNat)
    case atStart => exact ⟨0, 0, none, 0, Nat.zero_le _, rfl, rfl, rfl, OwnI.nil _ _, HB.out⟩
    case round =>
      obtain ⟨k, n, a', c', hk, rfl, rfl, hn, hown, hb⟩ := hrel
      have HN := Lib.hid hn
      have HO := Lib.hid hown
      have HB' := Lib.hid hb
      have hnk : n ≤ k := by rw [hn]; have := List.length_filter_le M.isLit (zs.take k); simp at this; omega
      clear hn hown hb
      by_cases hlt : k < zs.length
      · have hzr := hz.below HB'.out
        obtain ⟨b, off, rfl, hbl, hcl⟩ := hzr.addr (by omega)
        obtain ⟨z, hzk⟩ : ∃ z, zs[k]? = some z := ⟨zs[k], by simp [hlt]⟩
        have hcell := hcl k z hzk
        have HZ := Lib.hid hzk
        have H64 := Lib.hid (hz.wf z (List.mem_of_getElem? hzk))
        clear hcl hzk
        cases hlz : M.isLit z
        · go_wp2_with (go_at_call 160; refine (literal_any _ _).mono ?_; rintro e w' ⟨rfl, rfl⟩)
          go_roundw
          case rel => exact ⟨k + 1, n, a', c', by omega, by go_num, rfl, by rw [M.filter_drop HZ.out hlz]; exact HN.out, by rw [M.filter_drop HZ.out hlz]; exact HO.out, HB'.out⟩
          case measure => simp [intOf]; omega
        · go_wp2_with (first
            | (go_at_call 160; refine (literal_any _ _).mono ?_; rintro e w' ⟨rfl, rfl⟩)
            | (at_builtin; refine wpList_append_Ints rfl (.tmp 17) (.tmp 19) 31 rfl Tryz.underlying31 w.heap.size _ _ _ ((zs.take k).filter M.isLit) rfl HN.out.symm (OwnI.alloc HO.out _) _ _ _ [z] rfl rfl (Ints.one wr z H64.out _) (fun h => by cases h) (by omega) (put_size1 HB'.out) ?_; intro a2 c2 w2 hown2 hg2 hB2; have HB2 := Lib.hid (put_below2 HB'.out hB2); have HO2 := Lib.hid hown2; clear hg2 hown2 hB2))
          go_roundw
          case rel => exact ⟨k + 1, n + 1, a2, c2, by omega, by go_num, rfl, by rw [M.filter_keep HZ.out hlz, List.length_append, ← HN.out]; rfl, by rw [M.filter_keep HZ.out hlz]; exact HO2.out, HB2.out⟩
          case measure => simp [intOf]; omega
      · have hfull : zs.take k = zs := List.take_of_length_le (by omega)
        have hI : Ints wr a' (zs.filter M.isLit) := by
          have := HO.out; rw [hfull] at this
          refine this.ints (fun y hy => hz.wf y (List.mem_filter.1 hy).1) ?_
          have := List.length_filter_le M.isLit zs; omega
        have hnl : n = (zs.filter M.isLit).length := by rw [HN.out, hfull]
        have hsr := sorted_any a' c' (zs.filter M.isLit) wr hI (fun y hy => (List.mem_filter.1 hy).2)
        rw [← hnl] at hsr
        have HS := Lib.hid hsr
        clear hfull hI hnl hsr
        go_wp2_with (go_at_call 161; refine HS.out.mono ?_; rintro e w' ⟨a3, c3, rfl, h1, h2, h3, h4, _⟩)
        go_ret
        exact ⟨_, _, rfl, h1, h2, h3, HB'.out.trans (h4.mono HB'.out.size)⟩
  · have ho : M.only zs = zs := M.only_of_right hr
    rw [ho]
    clear ho
    go_enter Tryz.func162, Tryz.ntmps162
    go_wp2_with (go_at_call 170; refine (right_any _ _ _ _ hz).mono ?_; rintro e w1 ⟨rfl, hb⟩)
    go_ret
    exact ⟨_, _, rfl, hz.below hb, hc, hd, hb⟩
theorem tautology_any (a : Option Addr) (c : Nat) (zs : List Int) (w : World) (hz : Ints w a zs) (hc : zs.length ≤ c) (hd : a = none → c = 0) :
    Calls Tryz.prog 141 #[.slice a zs.length c] w fun e w' => e = .returned (.bool (M.adj (M.only zs))) ∧ Below w.heap.size w w' := by
  go_enter Tryz.func141, Tryz.ntmps141
  go_wp2_with (go_at_call 162; refine (only_any _ _ _ _ hz hc hd).mono ?_; rintro e w1 ⟨a', c', rfl, h1, h2, h3, h4⟩)
  have hlen := h1.len
  have HA := Lib.hid (fun x => (M.mem_only zs x).1)
  generalize hgen : M.only zs = ys at *
  have HG := Lib.hid hgen
  clear hgen
  have HB := Lib.hid h4
  clear h4 h3 hz hd
  go_loopw [4] (fun i wr => ∃ k : Nat, (1 ≤ k ∧ (k ≤ ys.length ∨ k = 1)) ∧ i = .int .i64 k ∧ M.adj (ys.take k) = false ∧ ∃ q, wr = w1.drewN q) (fun i _ => ys.length - (intOf i).toNat)
  case atStart => exact ⟨1, ⟨Nat.le_refl _, .inr rfl⟩, rfl, M.adj_take1 ys, 0, rfl⟩
  case round =>
    obtain ⟨k, hk, rfl, hf, q, rfl⟩ := hrel
    have hk1 := hk.1
    have HF := Lib.hid hf
    have HK := Lib.hid hk
    clear hf hk
    by_cases hlt : k < ys.length
    · obtain ⟨b, off, rfl, hbl, hcl⟩ := h1.addr (by omega)
      obtain ⟨z, hzk⟩ : ∃ z, ys[k]? = some z := ⟨ys[k], by simp [hlt]⟩
      obtain ⟨y, hyk⟩ : ∃ z, ys[k - 1]? = some z := ⟨ys[k - 1], List.getElem?_eq_getElem (by omega)⟩
      have hcell := hcl k z hzk
      have hcell2 := hcl (k - 1) y hyk
      have hly := (HA.out y (List.mem_of_getElem? hyk)).2
      have hl2 := (M.isLit_iff y).1 hly
      have hlo : -20000 ≤ y := hl2.2.1
      have hhi : y ≤ 20000 := hl2.2.2
      have HZ := Lib.hid hzk
      have HY := Lib.hid hyk
      clear hcl hzk hyk hly hl2
      have hi1 : (k : Int) < (ys.length : Int) := by omega
      have hi2 : (k : Int) - 1 < (ys.length : Int) := by omega
      have hi3 : 0 ≤ (k : Int) - 1 := by omega
      have hi4 : 1 ≤ (k : Int) := by omega
      go_wp2
      go_quiet (fail)
      go_wp2
      · have hp : (z == -y) = true := by assumption
        go_ret
        exact ⟨ret_bool (by rw [HG.out, M.adj_hit hk1 HY.out HZ.out hp]), HB.out.trans ((bDrewN _ _ q).trans (bDrewN _ _ _))⟩
      · have hp : (z == -y) = false := by assumption
        go_roundw
        case rel => exact ⟨k + 1, ⟨by omega, .inl (by omega)⟩, by go_num, by rw [M.adj_step hk1 HY.out HZ.out, HF.out, hp]; rfl, _, rfl⟩
        case measure => simp [intOf]; omega
    · go_wp2
      go_ret
      refine ⟨ret_bool ?_, ?_⟩
      · have := HF.out; rw [List.take_of_length_le (by omega)] at this; rw [HG.out]; exact this.symm
      · exact HB.out.trans (bDrewN _ _ _)
end Go.Proofs.YtnmcajinaigcjaaGreatDoor.C
namespace Go.Proofs.YtnmcajinaigcjaaGreatDoor.C
open Go.RowKit

/-- a' lies where a lay, or in a new block -/
def LiesAt (n : Nat) (a a' : Option Addr) : Prop := ∀ ad', a' = some ad' → (∃ ad, a = some ad ∧ ad.block = ad'.block) ∨ ad'.block = n
theorem LiesAt.of_ownBlock {n : Nat} {a a' : Option Addr} {l l' c c' : Nat} (h : (Value.slice a' l' c').ownBlock = (Value.slice a l c).ownBlock ∨ (Value.slice a' l' c').ownBlock = some n) : LiesAt n a a' := by
  intro ad' e
  subst e
  rcases h with h | h
  · cases a with
    | none => simp [Value.ownBlock] at h
    | some ad => simp [Value.ownBlock] at h; exact .inl ⟨ad, rfl, h.symm⟩
  · simp [Value.ownBlock] at h; exact .inr h
theorem LiesAt.refl (n : Nat) (a : Option Addr) : LiesAt n a a := fun ad e => .inl ⟨ad, e, rfl⟩
theorem LiesAt.off {X : Nat → Prop} {w : World} {n : Nat} {a a' : Option Addr} (h : LiesAt n a a') (ho : OffX X a) (hX : XLt X w) (hn : w.heap.size ≤ n) : OffX X a' := fun ad' e hx => by
  rcases h ad' e with ⟨ad, e2, e3⟩ | h2
  · exact ho ad e2 (by rw [e3]; exact hx)
  · have := hX _ hx; omega
/-- append(ys, zs...) where the call made ys, and where it lies -/
theorem wpList_append_IntsAt {w : World} {ops : Array Oper} {rest : List Oper} {o : Oper} {act : Act} {Q : Exit → Act → World → Prop} (hgd : o.guard = none) (s x : Operand) (t : TypeId)
    (ho : o.op = .call { callee := .builtin .append, args := #[s, x], argTypes := #[t, t] }) (ht : Tryz.prog.underlying t = some (.slice 3))
    (base : Nat) (a : Option Addr) (n c : Nat) (ys : List Int) (hs : act.eval s = .slice a n c) (hn : ys.length = n) (hown : OwnI w base a c ys)
    (b : Option Addr) (m d : Nat) (zs : List Int) (hx : act.eval x = .slice b m d) (hm : zs.length = m) (hz : Ints w b zs) (hd : b = none → d = 0)
    (hlen : n + m ≤ 17592186043904) (hbase : base ≤ w.heap.size)
    (h : ∀ a' c' w', OwnI w' base a' c' (ys ++ zs) → w.grownBy w' (Value.slice a n c).ownBlock → LiesAt w.heap.size a a' → wpList Tryz.prog ops Q rest (act.put o.dst (.slice a' (n + m) c')) w') :
    wpList Tryz.prog ops Q (o :: rest) act w := by
  subst hn hm
  obtain ⟨i0, hi, hz0, hz1, hz2⟩ := info_parts Tryz.infoInt
  have fin : ∀ v' w', w'.ownsRow base 3 1 v' (ys.length + zs.length) (ys.map (Value.int .i64) ++ zs.map (Value.int .i64)) → w.grownBy w' (Value.slice a ys.length c).ownBlock → (v'.ownBlock = (Value.slice a ys.length c).ownBlock ∨ v'.ownBlock = some w.heap.size) → wpList Tryz.prog ops Q rest (act.put o.dst v') w' := by
    intro v' w' h1 h2 h3
    rw [← List.map_append, ← List.length_append] at h1
    have : ∃ a' c', v' = .slice a' (ys ++ zs).length c' := by
      rcases h1.2 with ⟨e, hn⟩ | ⟨g, cap, cur, e, _⟩
      · exact ⟨none, 0, by rw [e, hn]⟩
      · exact ⟨_, _, e⟩
    obtain ⟨a', c', rfl⟩ := this
    rw [show (ys ++ zs).length = ys.length + zs.length from List.length_append]
    exact h a' c' w' h1 h2 (LiesAt.of_ownBlock h3)
  cases b with
  | some ad =>
    refine wpList_append_own_at w hgd s x t ho base 3 i0 (.int .i64 0) 1 8 ht hi hz0 hz1 hz2 rfl (by decide) _ _ _ hs hown ad zs.length d (zs.map (Value.int .i64)) hx (by simp) ?_ ?_ ?_ ?_ hbase ?_
    · intro j u hj
      have hjl : j < zs.length := by
        rcases Nat.lt_or_ge j zs.length with h' | h'
        · exact h'
        · rw [List.getElem?_eq_none (by simpa using h')] at hj; cases hj
      obtain ⟨b', off, e, _, hc⟩ := hz.addr (by omega)
      cases e
      rw [List.getElem?_map, List.getElem?_eq_getElem hjl] at hj
      cases hj
      rw [addr_add]; exact hc j _ (List.getElem?_eq_getElem hjl)
    · intro u hu; simp at hu; obtain ⟨z, _, rfl⟩ := hu; rfl
    · unfold maxLen; omega
    · omega
    · intro v' w' h1 h2 _ h3
      exact fin v' w' h1 h2 h3
  | none =>
    have e0 : zs = [] := by
      cases zs with
      | nil => rfl
      | cons z l => obtain ⟨_, _, e, _⟩ := hz.addr (by simp); cases e
    subst e0
    obtain rfl := hd rfl
    refine wpList_append_own_none hgd s x t ho base 3 i0 1 ht hi _ _ _ hs hown hx ?_
    refine fin _ _ ?_ ⟨rfl, rfl, rfl, Nat.le_refl _, fun _ _ _ => rfl⟩ (.inl rfl)
    have h' : w.ownsRow base 3 1 (.slice a ys.length c) ys.length (ys.map (Value.int .i64)) := hown
    simpa using h'
end Go.Proofs.YtnmcajinaigcjaaGreatDoor.C
namespace Go.Proofs.YtnmcajinaigcjaaGreatDoor.C
open Go.RowKit

theorem Tryz.infoClause : (Tryz.prog.info? 98).map (fun i => (i.zero, i.size, i.bytes)) = some (some (.slice none 0 0), 1, 24) := by kernel_rfl

/-- the clauses' row, from block number base on -/
def OwnC (X : Nat → Prop) (w : World) (base : Nat) (a : Option Addr) (c : Nat) (cs : List (List Int)) : Prop :=
  OffX X a ∧ ∃ vals : List Value, w.ownsRow base 98 1 (.slice a cs.length c) cs.length vals ∧
    ∀ (i : Nat) (x : List Int), cs[i]? = some x → ∃ a' c', vals[i]? = some (Value.slice a' x.length c') ∧ Ints w a' x ∧ TagX X w a' ∧ x.length ≤ c' ∧ (a' = none → c' = 0)
/-- the formula at block p: so many variables, these clauses, their row at a; none of it lies in X -/
structure Fm (X : Nat → Prop) (w : World) (base p vars : Nat) (cs : List (List Int)) (a : Option Addr) (c : Nat) : Prop where
  le : base ≤ p
  blk : w.heap[p]? = some (.cells #[.int .i64 vars, .slice a cs.length c] 97 (0, 0))
  own : OwnC X w base a c cs
  vars : vars ≤ 20000
  len : cs.length ≤ 1000000
  xlt : XLt X w
  xp : ¬ X p
/-- nothing has turned but the formula's block and its row -/
structure KeepsF (p : Nat) (a : Option Addr) (w w' : World) : Prop where
  os : w'.os = w.os
  tape : w'.tape = w.tape
  output : w'.output = w.output
  size : w.heap.size ≤ w'.heap.size
  block : ∀ k, k < w.heap.size → k ≠ p → (∀ ad, a = some ad → k ≠ ad.block) → w'.heap[k]? = w.heap[k]?
variable {X : Nat → Prop}

theorem Fm.lt {w : World} {base p vars : Nat} {cs : List (List Int)} {a : Option Addr} {c : Nat} (h : Fm X w base p vars cs a c) : p < w.heap.size := (Array.getElem?_eq_some_iff.1 h.blk).1
theorem Fm.cell0 {w : World} {base p vars : Nat} {cs : List (List Int)} {a : Option Addr} {c : Nat} (h : Fm X w base p vars cs a c) : w.cell? ⟨p, 0, none⟩ = some (.int .i64 vars) := by rw [cell_of_cells h.blk]; rfl
theorem Fm.cell1 {w : World} {base p vars : Nat} {cs : List (List Int)} {a : Option Addr} {c : Nat} (h : Fm X w base p vars cs a c) : w.cell? ⟨p, 1, none⟩ = some (.slice a cs.length c) := by rw [cell_of_cells h.blk]; rfl
theorem Fm.frozen {w : World} {base p vars : Nat} {cs : List (List Int)} {a : Option Addr} {c : Nat} (h : Fm X w base p vars cs a c) (i : Nat) : w.frozen? ⟨p, i, none⟩ = false := by simp [World.frozen?, h.blk]
theorem OwnC.below {w w' : World} {base : Nat} {a : Option Addr} {c : Nat} {cs : List (List Int)} (h : OwnC X w base a c cs) (hb : Below w.heap.size w w') : OwnC X w' base a c cs := by
  obtain ⟨hx, vals, ho, hv⟩ := h
  refine ⟨hx, vals, ho.kept (row := none) ⟨hb.os, hb.tape, hb.output, hb.size, fun k hk _ => hb.block k hk⟩ ?_, fun i x hx => ?_⟩
  · cases a <;> simp [Value.ownBlock]
  · obtain ⟨a', c', h1, h2, h3, h4, h5⟩ := hv i x hx
    exact ⟨a', c', h1, h2.below hb, h3.below hb, h4, h5⟩
theorem Fm.below {w w' : World} {base p vars : Nat} {cs : List (List Int)} {a : Option Addr} {c : Nat} (h : Fm X w base p vars cs a c) (hb : Below w.heap.size w w') : Fm X w' base p vars cs a c :=
  ⟨h.le, (hb.block _ h.lt).trans h.blk, h.own.below hb, h.vars, h.len, h.xlt.mono hb.size, h.xp⟩
theorem KeepsF.refl (p : Nat) (a : Option Addr) (w : World) : KeepsF p a w w := ⟨rfl, rfl, rfl, Nat.le_refl _, fun _ _ _ _ => rfl⟩
theorem KeepsF.of_below {p : Nat} {a : Option Addr} {w w' : World} (h : Below w.heap.size w w') : KeepsF p a w w' := ⟨h.os, h.tape, h.output, h.size, fun k hk _ _ => h.block k hk⟩
theorem OwnC.row {w : World} {base : Nat} {a : Option Addr} {c : Nat} {cs : List (List Int)} (h : OwnC X w base a c cs) : ∀ ad, a = some ad → base ≤ ad.block ∧ ∃ cur, w.heap[ad.block]? = some (.cells cur 98 (0, 0)) := by
  intro ad e
  obtain ⟨_, vals, ho, _⟩ := h
  rcases ho.2 with ⟨e0, _⟩ | ⟨g, cap, cur, e0, hb, hg, _⟩
  · injection e0 with e1; rw [e] at e1; cases e1
  · injection e0 with e1; rw [e] at e1; cases e1; exact ⟨hb, cur, hg⟩
/-- a block that the formula leaves alone: it lies below base, in X, or among other things than formulas -/
def Left (X : Nat → Prop) (base : Nat) (w : World) (k : Nat) : Prop :=
  k < base ∨ X k ∨ ∃ cur e m, w.heap[k]? = some (.cells cur e m) ∧ e ≠ 98 ∧ e ≠ 97
theorem KeepsF.same {w w' : World} {base p vars : Nat} {cs : List (List Int)} {a : Option Addr} {c : Nat} (hk : KeepsF p a w w') (h : Fm X w base p vars cs a c) {k : Nat} (hlt : k < w.heap.size)
    (ho : Left X base w k) : w'.heap[k]? = w.heap[k]? := by
  refine hk.block k hlt ?_ ?_
  · rintro rfl
    rcases ho with ho | ho | ⟨cur, e, m, hc, h1, h2⟩
    · have := h.le; omega
    · exact h.xp ho
    · rw [h.blk] at hc; cases hc; exact h2 rfl
  · rintro ad e rfl
    obtain ⟨hb, cur, hg⟩ := h.own.row ad e
    rcases ho with ho | ho | ⟨cur', e', m, hc, h1, h2⟩
    · omega
    · exact h.own.1 ad e ho
    · rw [hg] at hc; cases hc; exact h1 rfl
theorem KeepsF.below {w w' : World} {base p vars : Nat} {cs : List (List Int)} {a : Option Addr} {c : Nat} (hk : KeepsF p a w w') (h : Fm X w base p vars cs a c) (hb : base ≤ w.heap.size) : Below base w w' :=
  ⟨hk.os, hk.tape, hk.output, hk.size, fun k hlt => hk.same h (by omega) (.inl hlt)⟩
/-- what lay below base, or in X, or lies among other things than formulas, stands -/
structure Kp (X : Nat → Prop) (base : Nat) (w w' : World) : Prop where
  os : w'.os = w.os
  tape : w'.tape = w.tape
  output : w'.output = w.output
  size : w.heap.size ≤ w'.heap.size
  block : ∀ k, k < w.heap.size → Left X base w k → w'.heap[k]? = w.heap[k]?
theorem KeepsF.kp {w w' : World} {base p vars : Nat} {cs : List (List Int)} {a : Option Addr} {c : Nat} (hk : KeepsF p a w w') (h : Fm X w base p vars cs a c) : Kp X base w w' :=
  ⟨hk.os, hk.tape, hk.output, hk.size, fun _ hlt ho => hk.same h hlt ho⟩
theorem Kp.refl (X : Nat → Prop) (base : Nat) (w : World) : Kp X base w w := ⟨rfl, rfl, rfl, Nat.le_refl _, fun _ _ _ => rfl⟩
theorem Kp.trans {base : Nat} {w w1 w2 : World} (h : Kp X base w w1) (h2 : Kp X base w1 w2) : Kp X base w w2 :=
  ⟨h2.os.trans h.os, h2.tape.trans h.tape, h2.output.trans h.output, Nat.le_trans h.size h2.size, fun k hk ho => by
    have e := h.block k hk ho
    rw [h2.block k (Nat.lt_of_lt_of_le hk h.size) ?_, e]
    rcases ho with ho | ho | ⟨cur, t, m, hc, h1, h2⟩
    · exact .inl ho
    · exact .inr (.inl ho)
    · exact .inr (.inr ⟨cur, t, m, e.trans hc, h1, h2⟩)⟩
theorem Kp.of_below {base : Nat} {w w' : World} (h : Below w.heap.size w w') : Kp X base w w' := ⟨h.os, h.tape, h.output, h.size, fun k hk _ => h.block k hk⟩
theorem Kp.below {base : Nat} {w w' : World} (h : Kp X base w w') (hb : base ≤ w.heap.size) : Below base w w' := ⟨h.os, h.tape, h.output, h.size, fun k hk => h.block k (by omega) (.inl hk)⟩
/-- where a list lies, if there is anything in it -/
def eff (b : Option Addr) (zs : List Int) : Option Addr := if zs = [] then none else b
theorem eff_nil (b : Option Addr) : eff b [] = none := rfl
theorem eff_some {b : Option Addr} {zs : List Int} {ad : Addr} (h : eff b zs = some ad) : b = some ad := by
  unfold eff at h; split at h
  · cases h
  · exact h
theorem eff_pos {b : Option Addr} {zs : List Int} (h : 0 < zs.length) : eff b zs = b := by
  unfold eff; rw [if_neg]; rintro rfl; simp at h
/-- what lies in one block reads as it did -/
theorem Ints.same {w w' : World} {b : Option Addr} {zs : List Int} (hz : Ints w b zs) (hs : w.heap.size ≤ w'.heap.size) (key : ∀ ad, b = some ad → w'.heap[ad.block]? = w.heap[ad.block]?) : Ints w' b zs := by
  refine ⟨fun h0 => ?_, hz.wf, hz.len⟩
  obtain ⟨b', off, rfl, hlt, hc⟩ := hz.addr h0
  refine ⟨b', off, rfl, Nat.lt_of_lt_of_le hlt hs, fun i z hi => ?_⟩
  exact (World.cell?_of_block (a := ⟨b', off + i, none⟩) (key ⟨b', off, none⟩ rfl)).trans (hc i z hi)
theorem Ints.sameE {w w' : World} {b : Option Addr} {zs : List Int} (hz : Ints w b zs) (hs : w.heap.size ≤ w'.heap.size) (key : ∀ ad, eff b zs = some ad → w'.heap[ad.block]? = w.heap[ad.block]?) : Ints w' b zs := by
  by_cases h0 : 0 < zs.length
  · rw [eff_pos h0] at key; exact hz.same hs key
  · exact ⟨fun h => absurd h h0, hz.wf, hz.len⟩
theorem TagI.same {w w' : World} {b : Option Addr} (ht : TagI w b) (key : ∀ ad, b = some ad → w'.heap[ad.block]? = w.heap[ad.block]?) : TagI w' b := fun ad e => by
  obtain ⟨cur, m, hc⟩ := ht ad e
  exact ⟨cur, m, (key ad e).trans hc⟩
theorem Kp.ints {base : Nat} {w w' : World} (hk : Kp X base w w') {b : Option Addr} {zs : List Int} (hz : Ints w b zs) (ht : TagI w b) : Ints w' b zs ∧ TagI w' b := by
  have key : ∀ ad, b = some ad → w'.heap[ad.block]? = w.heap[ad.block]? := by
    intro ad e
    obtain ⟨cur, m, hc⟩ := ht ad e
    exact hk.block _ (Array.getElem?_eq_some_iff.1 hc).1 (.inr (.inr ⟨cur, _, m, hc, by decide, by decide⟩))
  exact ⟨hz.same hk.size key, ht.same key⟩
/-- the formula goes on -/
def FmPost (X : Nat → Prop) (w : World) (base p vars : Nat) (cs : List (List Int)) (w' : World) : Prop :=
  ∃ a' c', Fm X w' base p vars cs a' c' ∧ Kp X base w w'

theorem new_any (w : World) :
    Calls Tryz.prog 42 #[] w fun e w' => e = .returned (.pointer (some ⟨w.heap.size, 0, none⟩)) ∧ w.alloc (.cells #[.int .i64 0, .slice none 0 0] 97) = w' := by
  go_enter Tryz.func42, Tryz.ntmps42
  go_wp2
  go_ret
  exact ⟨rfl, rfl⟩
theorem Fm.new (w : World) (base : Nat) (hb : base ≤ w.heap.size) (hX : XLt X w) : Fm X (w.alloc (.cells #[.int .i64 0, .slice none 0 0] 97)) base w.heap.size 0 [] none 0 :=
  ⟨hb, by show (w.heap.push _)[w.heap.size]? = _; simp, ⟨OffX.none X, [], World.ownsRow_nil _ _ _ _, fun i x h => by simp at h⟩, by omega, by simp, hX.mono (by simp), fun h => by have := hX _ h; omega⟩

theorem has_any (p vars : Nat) (b : Option Addr) (d : Nat) (zs : List Int) (w : World) (h0 : w.cell? ⟨p, 0, none⟩ = some (.int .i64 vars)) (hv : vars ≤ 20000) (hz : Ints w b zs) :
    Calls Tryz.prog 139 #[.pointer (some ⟨p, 0, none⟩), .slice b zs.length d] w fun e w' => e = .returned (.bool (M.own vars zs)) ∧ w = w' := by
  have hlen := hz.len
  go_enter Tryz.func139, Tryz.ntmps139
  go_wp2
  go_loop [6, 9] (fun _ i => ∃ k : Nat, k ≤ zs.length ∧ i = .int .i64 k ∧ M.own vars (zs.take k) = true) (fun _ i => zs.length - (intOf i).toNat)
  case atStart => exact ⟨0, Nat.zero_le _, rfl, rfl⟩
  case round =>
    obtain ⟨k, hk, rfl, hf⟩ := hrel
    have HF := Lib.hid hf
    clear hf
    by_cases hlt : k < zs.length
    · obtain ⟨b, off, rfl, hbl, hc⟩ := hz.addr (by omega)
      obtain ⟨z, hzk⟩ : ∃ z, zs[k]? = some z := ⟨zs[k], by simp [hlt]⟩
      have hcell := hc k z hzk
      have HZ := Lib.hid hzk
      clear hc hzk
      by_cases h1 : z = 0
      · have hb1 : (z == 0) = true := by simpa using h1
        have HE := Lib.hid h1
        clear h1
        go_wp2
        go_ret
        refine ⟨ret_bool ?_, rfl⟩
        exact (M.own_miss HZ.out (by rw [HE.out]; simp)).symm
      · have hb1 : (z == 0) = false := by simpa using h1
        by_cases h2 : z < -(vars : Int)
        · have hd : decide (z < -(vars : Int)) = true := by simpa using h2
          go_wp2
          go_ret
          exact ⟨ret_bool (M.own_miss HZ.out (by omega)).symm, rfl⟩
        · have hd : decide (z < -(vars : Int)) = false := by simpa using h2
          by_cases h3 : (vars : Int) < z
          · go_wp2
            go_ret
            exact ⟨ret_bool (M.own_miss HZ.out (by omega)).symm, rfl⟩
          · go_wp2
            go_round
            case rel => exact ⟨k + 1, by omega, by go_num, M.own_step HZ.out HF.out (by omega)⟩
            case measure => simp [intOf]; omega
    · go_wp2
      go_ret
      refine ⟨ret_bool ?_, rfl⟩
      have := HF.out
      rw [List.take_of_length_le (by omega)] at this
      exact this.symm
end Go.Proofs.YtnmcajinaigcjaaGreatDoor.C
namespace Go.Proofs.YtnmcajinaigcjaaGreatDoor.C
open Go.RowKit
variable {X : Nat → Prop}

theorem Ints.keepG {w w' : World} {row : Option Nat} (hg : w.grownBy w' row) (hrow : ∀ k, row = some k → ∃ cur e, w.heap[k]? = some (.cells cur e (0, 0)) ∧ e ≠ 3) {b : Option Addr} {zs : List Int} (hz : Ints w b zs) (ht : TagI w b) : Ints w' b zs ∧ TagI w' b := by
  have key : ∀ ad, b = some ad → w'.heap[ad.block]? = w.heap[ad.block]? := by
    intro ad e
    obtain ⟨cur, m, hc⟩ := ht ad e
    refine hg.block _ (Array.getElem?_eq_some_iff.1 hc).1 fun e' => ?_
    obtain ⟨cur', t, hc', hne⟩ := hrow _ e'.symm
    rw [hc'] at hc; cases hc; exact hne rfl
  refine ⟨⟨fun h0 => ?_, hz.wf, hz.len⟩, fun ad e => ?_⟩
  · obtain ⟨b', off, rfl, hlt, hc⟩ := hz.addr h0
    refine ⟨b', off, rfl, Nat.lt_of_lt_of_le hlt hg.size, fun i z hi => ?_⟩
    exact (World.cell?_of_block (a := ⟨b', off + i, none⟩) (key ⟨b', off, none⟩ rfl)).trans (hc i z hi)
  · obtain ⟨cur, m, hc⟩ := ht ad e
    exact ⟨cur, m, (key ad e).trans hc⟩
theorem OwnC.ownBlock {w : World} {base : Nat} {a : Option Addr} {c : Nat} {cs : List (List Int)} (h : OwnC X w base a c cs) (n : Nat) : ∀ k, (Value.slice a n c).ownBlock = some k → base ≤ k ∧ ∃ cur, w.heap[k]? = some (.cells cur 98 (0, 0)) := by
  intro k hk
  cases a with
  | none => simp [Value.ownBlock] at hk
  | some ad => simp [Value.ownBlock] at hk; subst hk; exact h.row ad rfl
/-- a row of clauses that is read -/
def ClsT (X : Nat → Prop) (w : World) (b : Option Addr) (d : Nat) (ds : List (List Int)) : Prop :=
  (b = none → d = 0) ∧ ∃ vals : List Value, vals.length = ds.length ∧ (∀ (j : Nat) (u : Value), vals[j]? = some u → ∃ ad, b = some ad ∧ w.cell? (ad.add j) = some u) ∧
    ∀ (i : Nat) (x : List Int), ds[i]? = some x → ∃ a' c', vals[i]? = some (Value.slice a' x.length c') ∧ Ints w a' x ∧ TagX X w a' ∧ x.length ≤ c' ∧ (a' = none → c' = 0)
theorem ClsT.one {w : World} {ad : Addr} {b : Option Addr} {d : Nat} {zs : List Int} (hcell : w.cell? ad = some (.slice b zs.length d)) (hz : Ints w b zs) (ht : TagX X w b) (hcap : zs.length ≤ d) (hd : b = none → d = 0) : ClsT X w (some ad) 1 [zs] := by
  refine ⟨(fun h => by cases h), [Value.slice b zs.length d], rfl, fun j u hj => ?_, fun i x hx => ?_⟩
  · match j, hj with
    | 0, hj => simp at hj; subst hj; exact ⟨ad, rfl, hcell⟩
  · match i, hx with
    | 0, hx => simp at hx; subst hx; exact ⟨b, d, rfl, hz, ht, hcap, hd⟩
theorem OwnC.clsT {w : World} {base : Nat} {a : Option Addr} {c : Nat} {cs : List (List Int)} (h : OwnC X w base a c cs) : ClsT X w a c cs := by
  obtain ⟨_, vals, ho, hv⟩ := h
  refine ⟨fun e => ?_, vals, by simpa using ho.1, fun j u hj => ?_, hv⟩
  · rcases ho.2 with ⟨e0, _⟩ | ⟨g, cap, cur, e0, _⟩
    · injection e0
    · injection e0 with e1; rw [e] at e1; cases e1
  · cases a with
    | none =>
      rcases ho.2 with ⟨e0, hn⟩ | ⟨g, cap, cur, e0, _⟩
      · have : vals.length = 0 := by have := ho.1; omega
        rw [List.eq_nil_of_length_eq_zero this] at hj; simp at hj
      · injection e0 with e1; cases e1
    | some ad =>
      have := ho.cells (g := ad.block) rfl j u hj
      rcases ho.2 with ⟨e0, hn⟩ | ⟨g, cap, cur, e0, _⟩
      · injection e0 with e1; cases e1
      · injection e0 with e1; cases e1
        exact ⟨_, rfl, this⟩
/-- append(cs, ds...) -/
theorem wpList_append_Clauses {w : World} {ops : Array Oper} {rest : List Oper} {o : Oper} {act : Act} {Q : Exit → Act → World → Prop} (hgd : o.guard = none) (s x : Operand)
    (ho : o.op = .call { callee := .builtin .append, args := #[s, x], argTypes := #[56, 56] })
    (base : Nat) (a : Option Addr) (n c : Nat) (cs : List (List Int)) (hs : act.eval s = .slice a n c) (hn : cs.length = n) (hown : OwnC X w base a c cs)
    (b : Option Addr) (m d : Nat) (ds : List (List Int)) (hx : act.eval x = .slice b m d) (hm : ds.length = m) (hsrc : ClsT X w b d ds) (hX : XLt X w) (hlen : n + m ≤ 1000000) (hbase : base ≤ w.heap.size)
    (h : ∀ a' c' w', OwnC X w' base a' c' (cs ++ ds) → w.grownBy w' (Value.slice a n c).ownBlock → wpList Tryz.prog ops Q rest (act.put o.dst (.slice a' (n + m) c')) w') :
    wpList Tryz.prog ops Q (o :: rest) act w := by
  subst hn hm
  obtain ⟨i0, hi, hz0, hz1, hz2⟩ := info_parts Tryz.infoClause
  have hown' := hown
  obtain ⟨hoff, vals, hrow, hvals⟩ := hown
  have hvl : vals.length = cs.length := by simpa using hrow.1
  obtain ⟨hd, vs, hvsl, hcells, hin⟩ := hsrc
  have fin : ∀ v' w', w'.ownsRow base 98 1 v' (cs.length + ds.length) (vals ++ vs) → w.grownBy w' (Value.slice a cs.length c).ownBlock → (v'.ownBlock = (Value.slice a cs.length c).ownBlock ∨ v'.ownBlock = some w.heap.size) → wpList Tryz.prog ops Q rest (act.put o.dst v') w' := by
    intro v' w' h1 h2 h3
    have hk : ∀ {b : Option Addr} {zs : List Int}, Ints w b zs → TagX X w b → Ints w' b zs ∧ TagX X w' b := by
      intro b zs h3 h4
      have r := Ints.keepG h2 (fun k hk => by
        obtain ⟨_, cur, hc⟩ := hown'.ownBlock _ k hk
        exact ⟨cur, _, hc, by decide⟩) h3 h4.tag
      exact ⟨r.1, h4.off, r.2⟩
    have : ∃ a' c', v' = .slice a' (cs.length + ds.length) c' := by
      rcases h1.2 with ⟨e, hn⟩ | ⟨g, cap, cur, e, _⟩
      · exact ⟨none, 0, by rw [e, hn]⟩
      · exact ⟨_, _, e⟩
    obtain ⟨a', c', rfl⟩ := this
    refine h a' c' w' ⟨(LiesAt.of_ownBlock h3).off hoff hX (Nat.le_refl _), vals ++ vs, by simpa using h1, fun i y hy => ?_⟩ h2
    by_cases hil : i < cs.length
    · rw [List.getElem?_append_left hil] at hy
      obtain ⟨a1, c1, e1, e2, e3, e4, e5⟩ := hvals i y hy
      exact ⟨a1, c1, by rw [List.getElem?_append_left (by omega)]; exact e1, (hk e2 e3).1, (hk e2 e3).2, e4, e5⟩
    · rw [List.getElem?_append_right (by omega)] at hy
      obtain ⟨a1, c1, e1, e2, e3, e4, e5⟩ := hin _ y hy
      exact ⟨a1, c1, by rw [List.getElem?_append_right (by omega), hvl]; exact e1, (hk e2 e3).1, (hk e2 e3).2, e4, e5⟩
  cases b with
  | some ad =>
    refine wpList_append_own_at w hgd s x 56 ho base 98 i0 (.slice none 0 0) 1 24 Tryz.underlying56 hi hz0 hz1 hz2 rfl (by decide) _ _ _ hs hrow ad ds.length d vs hx (by simpa using hvsl) ?_ ?_ ?_ ?_ hbase ?_
    · intro j u hj
      obtain ⟨ad', e, hc⟩ := hcells j u hj
      cases e; exact hc
    · intro u hu
      obtain ⟨j, hj, rfl⟩ := List.getElem_of_mem hu
      obtain ⟨a1, c1, e1, _⟩ := hin j (ds[j]'(by omega)) (List.getElem?_eq_getElem (by omega))
      rw [List.getElem?_eq_getElem hj] at e1
      rw [Option.some.inj e1]; rfl
    · unfold maxLen; omega
    · omega
    · intro v' w' h1 h2 _ h3
      exact fin v' w' h1 h2 h3
  | none =>
    have e0 : vs = [] := by
      cases vs with
      | nil => rfl
      | cons z l => obtain ⟨_, e, _⟩ := hcells 0 z (by simp); cases e
    subst e0
    have e1 : ds = [] := List.eq_nil_of_length_eq_zero (by simpa using hvsl.symm)
    subst e1
    obtain rfl := hd rfl
    refine wpList_append_own_none hgd s x 56 ho base 98 i0 1 Tryz.underlying56 hi _ _ _ hs hrow hx ?_
    exact fin _ _ (by simpa using hrow) ⟨rfl, rfl, rfl, Nat.le_refl _, fun _ _ _ => rfl⟩ (.inl rfl)
/-- behind 'f.clauses = append(f.clauses, c)' -/
theorem Fm.stored {w w1 w2 : World} {base p vars : Nat} {cs ds : List (List Int)} {a a' : Option Addr} {c c' n : Nat} (h : Fm X w base p vars cs a c) (hb1 : Below w.heap.size w w1)
    (ho : OwnC X w2 base a' c' (cs ++ ds)) (hg : w1.grownBy w2 (Value.slice a n c).ownBlock) (hl : cs.length + ds.length ≤ 1000000) :
    Fm X (w2.setCell ⟨p, 1, none⟩ (.slice a' (cs.length + ds.length) c')) base p vars (cs ++ ds) a' c' ∧ KeepsF p a w (w2.setCell ⟨p, 1, none⟩ (.slice a' (cs.length + ds.length) c')) := by
  have h1 := h.below hb1
  have hp1 : w2.heap[p]? = w1.heap[p]? := hg.block p h1.lt fun e => by
    obtain ⟨_, cur, hc⟩ := h1.own.ownBlock n p e.symm
    rw [h1.blk] at hc; cases hc
  have hp2 : w2.heap[p]? = some (.cells #[.int .i64 vars, .slice a cs.length c] 97 (0, 0)) := hp1.trans h1.blk
  have hother : ∀ k, k ≠ p → (w2.setCell ⟨p, 1, none⟩ (.slice a' (cs.length + ds.length) c')).heap[k]? = w2.heap[k]? := fun k hk => Below.heap_setCell _ _ _ _ hk
  have hblk : (w2.setCell ⟨p, 1, none⟩ (.slice a' (cs.length + ds.length) c')).heap[p]? = some (.cells #[.int .i64 vars, .slice a' (cs.length + ds.length) c'] 97 (0, 0)) := by
    simp [World.setCell, Array.getElem?_modify, hp2]
  refine ⟨⟨h.le, by simpa using hblk, ?_, h.vars, by simpa using hl, (h1.xlt.mono hg.size).mono (by simp [World.setCell]), h.xp⟩, ⟨hg.os.trans hb1.os, hg.tape.trans hb1.tape, hg.output.trans hb1.output, ?_, fun k hk hkp hka => ?_⟩⟩
  · obtain ⟨hoff, vals, hr, hv⟩ := ho
    have hkI : ∀ {b : Option Addr} {zs : List Int}, Ints w2 b zs → TagX X w2 b → Ints (w2.setCell ⟨p, 1, none⟩ (.slice a' (cs.length + ds.length) c')) b zs ∧ TagX X (w2.setCell ⟨p, 1, none⟩ (.slice a' (cs.length + ds.length) c')) b := by
      intro b zs hz ht
      have key : ∀ ad, b = some ad → (w2.setCell ⟨p, 1, none⟩ (.slice a' (cs.length + ds.length) c')).heap[ad.block]? = w2.heap[ad.block]? := by
        intro ad e
        obtain ⟨cur, m, hc⟩ := ht.tag ad e
        refine hother _ fun e' => ?_
        rw [e', hp2] at hc; cases hc
      exact ⟨hz.same (by simp [World.setCell]) key, ht.off, ht.tag.same key⟩
    refine ⟨hoff, vals, ?_, fun i y hy => ?_⟩
    · refine ⟨hr.1, ?_⟩
      rcases hr.2 with h0 | ⟨g, cap, cur, e, hbg, hgg, r⟩
      · exact .inl h0
      · refine .inr ⟨g, cap, cur, e, hbg, (hother g fun e' => ?_).trans hgg, r⟩
        rw [e', hp2] at hgg; cases hgg
    · obtain ⟨a1, c1, e1, e2, e3, e4, e5⟩ := hv i y hy
      exact ⟨a1, c1, e1, (hkI e2 e3).1, (hkI e2 e3).2, e4, e5⟩
  · have := hg.size; have := hb1.size; simp [World.setCell]; omega
  · rw [hother k hkp, hg.block k (Nat.lt_of_lt_of_le hk hb1.size) (fun e => ?_), hb1.block k hk]
    cases a with
    | none => simp [Value.ownBlock] at e
    | some ad => simp [Value.ownBlock] at e; exact hka ad rfl e

theorem right_norm {zs : List Int} (h : ∀ z ∈ zs, M.isLit z = true) : M.right (M.norm zs) = true :=
  (M.right_iff _).2 ⟨fun x hx => h x ((M.mem_norm zs x).1 hx), M.norm_eq_self (M.sorted_norm zs)⟩
theorem only_norm {zs : List Int} (h : ∀ z ∈ zs, M.isLit z = true) : M.only (M.norm zs) = M.norm zs := M.only_of_right (right_norm h)
theorem Fm.grown {w w2 : World} {base p vars : Nat} {cs : List (List Int)} {a : Option Addr} {c n : Nat} (h : Fm X w base p vars cs a c) (hg : w.grownBy w2 (Value.slice a n c).ownBlock) :
    w2.cell? ⟨p, 1, none⟩ = some (.slice a cs.length c) ∧ w2.frozen? ⟨p, 1, none⟩ = false ∧ w2.cell? ⟨p, 0, none⟩ = some (.int .i64 vars) := by
  have hp : w2.heap[p]? = w.heap[p]? := hg.block p h.lt fun e => by
    obtain ⟨_, cur, hc⟩ := h.own.ownBlock n p e.symm
    rw [h.blk] at hc; cases hc
  exact ⟨(World.cell?_of_block (a := ⟨p, 1, none⟩) hp).trans h.cell1, (World.frozen?_of_block (a := ⟨p, 1, none⟩) hp).trans (h.frozen 1), (World.cell?_of_block (a := ⟨p, 0, none⟩) hp).trans h.cell0⟩
theorem below_alloc {w w2 : World} (h : Below w.heap.size w w2) (o : Obj) : Below w.heap.size w (w2.alloc o) := h.alloc h.size o
end Go.Proofs.YtnmcajinaigcjaaGreatDoor.C
namespace Go.Proofs.YtnmcajinaigcjaaGreatDoor.C
open Go.RowKit
variable {X : Nat → Prop}

theorem made_ints (n : Nat) : (madeCells (Value.int .i64 0).cells (n * 1)).toList = (List.replicate n (0 : Int)).map (Value.int .i64) := by
  apply List.ext_getElem?
  intro i
  simp only [madeCells, Value.cells, Nat.mul_one, List.map_replicate]
  by_cases h : i < n
  · simp [h, Nat.mod_one]
  · simp [h]
/-- make([]int, n) -/
theorem wpList_make_Ints {w : World} {ops : Array Oper} {rest : List Oper} {o : Oper} {act : Act} {Q : Exit → Act → World → Prop} (hgd : o.guard = none) (l c : Operand) (t : TypeId) (hop : o.op = Op.makeSlice t l c) (ht : Tryz.prog.underlying t = some (.slice 3))
    (base n : Nat) (hl : act.eval l = .int .i64 n) (hc : act.eval c = .int .i64 n) (hn : n ≤ 17592186043904) (hbase : base ≤ w.heap.size)
    (h : ∀ w', OwnI w' base (some ⟨w.heap.size, 0, none⟩) n (List.replicate n 0) → Below w.heap.size w w' → w.heap.size < w'.heap.size → wpList Tryz.prog ops Q rest (act.put o.dst (.slice (some ⟨w.heap.size, 0, none⟩) n n)) w') :
    wpList Tryz.prog ops Q (o :: rest) act w := by
  obtain ⟨i0, hi, hz0, hz1, hz2⟩ := info_parts Tryz.infoInt
  refine wpList_make_full w hgd l c t hop base 3 i0 (.int .i64 0) 1 ht hi hz0 hz1 .i64 .i64 n n n hl hc rfl rfl (by rw [hz2]; omega) (by unfold maxLen; omega) hbase ?_
  intro w' h1 h2
  rw [made_ints] at h1
  have h3 : OwnI w' base (some ⟨w.heap.size, 0, none⟩) n (List.replicate n 0) := by
    unfold OwnI; rw [List.length_replicate]; exact h1
  refine h w' h3 ⟨h2.os, h2.tape, h2.output, h2.size, fun k hk => h2.block k hk (by simp)⟩ ?_
  rcases h3.parts with ⟨e, _⟩ | ⟨g, cur, e, _, hlt, _⟩
  · cases e
  · cases e; exact hlt
theorem OwnI.stored {w : World} {base g c : Nat} {ys : List Int} (h : OwnI w base (some ⟨g, 0, none⟩) c ys) (j : Nat) (u : Int) : OwnI (w.setCell ⟨g, j, none⟩ (.int .i64 u)) base (some ⟨g, 0, none⟩) c (ys.set j u) := by
  have := (World.ownsRow.stored h j (.int .i64 u)).1
  unfold OwnI
  rw [List.length_set, List.map_set]; exact this
theorem OwnI.frozen {w : World} {base g c : Nat} {ys : List Int} (h : OwnI w base (some ⟨g, 0, none⟩) c ys) (i : Nat) : w.frozen? ⟨g, i, none⟩ = false := by
  rcases h.parts with ⟨e, _⟩ | ⟨g', cur, e, _, _, hg, _⟩
  · cases e
  · cases e; simp [World.frozen?, hg]
theorem OwnI.tag {w : World} {base c : Nat} {a : Option Addr} {ys : List Int} (h : OwnI w base a c ys) : TagI w a := by
  intro ad e
  rcases h.parts with ⟨e', _⟩ | ⟨g', cur, e', _, _, hg, _⟩
  · rw [e'] at e; cases e
  · rw [e'] at e; cases e; exact ⟨cur, _, hg⟩
/-- all but block p stands -/
structure AllBut (p : Nat) (w w' : World) : Prop where
  os : w'.os = w.os
  tape : w'.tape = w.tape
  output : w'.output = w.output
  size : w.heap.size ≤ w'.heap.size
  block : ∀ k, k < w.heap.size → k ≠ p → w'.heap[k]? = w.heap[k]?
theorem AllBut.of_below {p : Nat} {w w' : World} (h : Below w.heap.size w w') : AllBut p w w' := ⟨h.os, h.tape, h.output, h.size, fun k hk _ => h.block k hk⟩
theorem AllBut.set {p : Nat} {w w' : World} (h : AllBut p w w') (q i : Nat) (v : Value) (hq : q = p ∨ w.heap.size ≤ q) : AllBut p w (w'.setCell ⟨q, i, none⟩ v) :=
  ⟨h.os, h.tape, h.output, by simpa [World.setCell] using h.size, fun k hk hkp => by
    rw [Below.heap_setCell _ _ _ _ (by show k ≠ q; rcases hq with rfl | hq; exact hkp; omega)]; exact h.block k hk hkp⟩
theorem Fm.setV {w w' : World} {base p vars v : Nat} {cs : List (List Int)} {a : Option Addr} {c : Nat} (h : Fm X w base p vars cs a c) (hk : AllBut p w w') (hp : w'.heap[p]? = some (.cells #[.int .i64 v, .slice a cs.length c] 97 (0, 0))) (hv : v ≤ 20000) :
    Fm X w' base p v cs a c ∧ KeepsF p a w w' := by
  have hK : KeepsF p a w w' := ⟨hk.os, hk.tape, hk.output, hk.size, fun k hlt hkp _ => hk.block k hlt hkp⟩
  refine ⟨⟨h.le, hp, ?_, hv, h.len, h.xlt.mono hk.size, h.xp⟩, hK⟩
  obtain ⟨hoff, vals, hr, hv⟩ := h.own
  refine ⟨hoff, vals, ⟨hr.1, ?_⟩, fun i y hy => ?_⟩
  · rcases hr.2 with h0 | ⟨g, cap, cur, e, hbg, hgg, r⟩
    · exact .inl h0
    · refine .inr ⟨g, cap, cur, e, hbg, (hk.block g (Array.getElem?_eq_some_iff.1 hgg).1 fun e' => ?_).trans hgg, r⟩
      rw [e', h.blk] at hgg; cases hgg
  · obtain ⟨a1, c1, e1, e2, e3, e4, e5⟩ := hv i y hy
    have key : ∀ ad, a1 = some ad → w'.heap[ad.block]? = w.heap[ad.block]? := by
      intro ad e
      obtain ⟨cur, m, hc⟩ := e3.tag ad e
      refine hk.block _ (Array.getElem?_eq_some_iff.1 hc).1 fun e' => ?_
      rw [e', h.blk] at hc; cases hc
    exact ⟨a1, c1, e1, e2.same hk.size key, ⟨e3.off, e3.tag.same key⟩, e4, e5⟩
/-- numbers from v + 1 on -/
def M.iota (v n : Nat) : List Int := (List.range n).map fun (i : Nat) => (v : Int) + 1 + (i : Int)
theorem M.iota_length (v n : Nat) : (M.iota v n).length = n := by simp [M.iota]
def M.iotaTo (v n k : Nat) : List Int := M.iota v k ++ List.replicate (n - k) 0
theorem M.iotaTo_length (v n k : Nat) (h : k ≤ n) : (M.iotaTo v n k).length = n := by simp [M.iotaTo, M.iota]; omega
theorem M.iotaTo_set (v n k : Nat) (h : k < n) : (M.iotaTo v n k).set k ((v : Int) + (k : Int) + 1) = M.iotaTo v n (k + 1) := by
  unfold M.iotaTo
  rw [show n - k = (n - (k + 1)) + 1 by omega, List.replicate_succ, List.set_append_right _ _ (by simp [M.iota_length])]
  rw [M.iota_length, Nat.sub_self, List.set_cons_zero]
  have : M.iota v (k + 1) = M.iota v k ++ [(v : Int) + (k : Int) + 1] := by
    simp [M.iota, List.range_succ]; omega
  rw [this]; simp
def ManyOk (X : Nat → Prop) (w : World) (base p vars n : Nat) (cs : List (List Int)) (a : Option Addr) (c : Nat) (e : Ending) (w' : World) : Prop :=
  e = .returned (.tuple #[.slice (some ⟨w.heap.size, 0, none⟩) n n, .nilIface]) ∧ Fm X w' base p (vars + n) cs a c ∧ OwnI w' base (some ⟨w.heap.size, 0, none⟩) n (M.iota vars n) ∧ AllBut p w w'
theorem many_step {w wr : World} {base p vars n k : Nat} {cs : List (List Int)} {a : Option Addr} {c : Nat} (hlt : k < n) (hps : p < w.heap.size)
    (hp : wr.heap[p]? = some (.cells #[.int .i64 ((vars + k : Nat) : Int), .slice a cs.length c] 97 (0, 0))) (ho : OwnI wr base (some ⟨w.heap.size, 0, none⟩) n (M.iotaTo vars n k)) (hall : AllBut p w wr) :
    ((wr.setCell ⟨p, 0, none⟩ (.int .i64 ((vars : Int) + (k : Int) + 1))).setCell ⟨w.heap.size, k, none⟩ (.int .i64 ((vars : Int) + (k : Int) + 1))).heap[p]? = some (.cells #[.int .i64 ((vars + (k + 1) : Nat) : Int), .slice a cs.length c] 97 (0, 0)) ∧
    OwnI ((wr.setCell ⟨p, 0, none⟩ (.int .i64 ((vars : Int) + (k : Int) + 1))).setCell ⟨w.heap.size, k, none⟩ (.int .i64 ((vars : Int) + (k : Int) + 1))) base (some ⟨w.heap.size, 0, none⟩) n (M.iotaTo vars n (k + 1)) ∧
    AllBut p w ((wr.setCell ⟨p, 0, none⟩ (.int .i64 ((vars : Int) + (k : Int) + 1))).setCell ⟨w.heap.size, k, none⟩ (.int .i64 ((vars : Int) + (k : Int) + 1))) := by
  refine ⟨?_, ?_, (hall.set p 0 _ (.inl rfl)).set _ _ _ (.inr (Nat.le_refl _))⟩
  · rw [Below.heap_setCell _ _ _ _ (by show p ≠ w.heap.size; omega)]
    simp [World.setCell, Array.getElem?_modify, hp]
    omega
  · rw [← M.iotaTo_set vars n k hlt]
    refine OwnI.stored (OwnI.kept ho fun g cur _ hg => Below.heap_setCell _ _ _ _ fun e => ?_) k _
    rw [show g = p from e, hp] at hg; cases hg
set_option maxHeartbeats 1000000 in
theorem many_ok (base p vars n : Nat) (cs : List (List Int)) (a : Option Addr) (c : Nat) (w : World) (hF : Fm X w base p vars cs a c) (hn : 1 ≤ n) (hv : vars + n ≤ 20000) (hb : base ≤ w.heap.size) :
    Calls Tryz.prog 71 #[.pointer (some ⟨p, 0, none⟩), .int .i64 n] w (ManyOk X w base p vars n cs a c) := by
  have h0 := hF.cell0
  have hps := hF.lt
  go_enter Tryz.func71, Tryz.ntmps71
  go_wp2_with (at_make; refine wpList_make_Ints rfl (.tmp 18) (.tmp 18) 31 rfl Tryz.underlying31 base n rfl rfl (by omega) hb ?_; intro w1 hown hb1 hlt1; have HO := Lib.hid hown; have HB1 := Lib.hid hb1; clear hown hb1)
  go_loopw [7, 22] (fun _ i wr => ∃ k : Nat, k ≤ n ∧ i = .int .i64 k ∧ wr.heap[p]? = some (.cells #[.int .i64 ((vars + k : Nat) : Int), .slice a cs.length c] 97 (0, 0)) ∧ OwnI wr base (some ⟨w.heap.size, 0, none⟩) n (M.iotaTo vars n k) ∧ AllBut p w wr) (fun _ i _ => n - (intOf i).toNat)
  case atStart =>
    refine ⟨0, Nat.zero_le _, rfl, ?_, ?_, AllBut.of_below HB1.out⟩
    · exact (HB1.out.block p hps).trans hF.blk
    · simpa [M.iotaTo, M.iota] using HO.out
  case round =>
    obtain ⟨k, hk, rfl, hp, ho, hall⟩ := hrel
    have hc0 : wr.cell? ⟨p, 0, none⟩ = some (.int .i64 ((vars : Int) + (k : Int))) := by rw [cell_of_cells hp]; simp
    have hf0 : wr.frozen? ⟨p, 0, none⟩ = false := by simp [World.frozen?, hp]
    have HP := Lib.hid hp
    have HOW := Lib.hid ho
    have HALL := Lib.hid hall
    clear hp hall
    by_cases hlt : k < n
    · have hg : wr.cell? ⟨w.heap.size, k, none⟩ = some (.int .i64 0) := by
        have hi := ho.ints (fun z hz => by
          simp [M.iotaTo, M.iota] at hz
          rcases hz with ⟨j, hj, rfl⟩ | ⟨_, rfl⟩
          · constructor <;> omega
          · constructor <;> omega) (by rw [M.iotaTo_length _ _ _ hk]; omega)
        obtain ⟨b, off, e, _, hc⟩ := hi.addr (by rw [M.iotaTo_length _ _ _ hk]; omega)
        cases e
        have := hc k 0 (by rw [M.iotaTo, List.getElem?_append_right (by simp [M.iota_length]), M.iota_length, Nat.sub_self, List.getElem?_replicate, if_pos (by omega)])
        simpa using this
      have hgf : wr.frozen? ⟨w.heap.size, k, none⟩ = false := ho.frozen k
      have hne : p ≠ w.heap.size := by omega
      clear ho
      go_wp2
      go_roundw
      case rel =>
        obtain ⟨r1, r2, r3⟩ := many_step hlt hps HP.out HOW.out HALL.out
        exact ⟨k + 1, by omega, by go_num, r1, r2, r3⟩
      case measure => simp [intOf]; omega
    · go_wp2
      go_ret2
      obtain rfl : k = n := by omega
      obtain ⟨r1, r2⟩ := hF.setV HALL.out HP.out hv
      refine ⟨rfl, r1, ?_, HALL.out⟩
      have := HOW.out
      simpa [M.iotaTo] using this
theorem many_zero (p : Nat) (n : Int) (w : World) (hn : n < 1) :
    Calls Tryz.prog 71 #[.pointer (some ⟨p, 0, none⟩), .int .i64 n] w fun e w' => e = .returned (.tuple #[.slice none 0 0, .nilIface]) ∧ w = w' := by
  go_enter Tryz.func71, Tryz.ntmps71
  go_wp2
  go_ret2
  exact ⟨rfl, rfl⟩
theorem many_limit (p vars : Nat) (n : Int) (v : Value) (w : World) (h0 : w.cell? ⟨p, 0, none⟩ = some (.int .i64 vars)) (hv : vars ≤ 20000) (hn : 1 ≤ n) (hl : 20000 - (vars : Int) < n) (hg : w.cell? ⟨11, 0, none⟩ = some v) :
    Calls Tryz.prog 71 #[.pointer (some ⟨p, 0, none⟩), .int .i64 n] w fun e w' => e = .returned (.tuple #[.slice none 0 0, v]) ∧ ∃ q, w' = w.drewN q := by
  go_enter Tryz.func71, Tryz.ntmps71
  go_wp2
  go_quiet (fail)
  go_wp2
  go_ret2
  exact ⟨rfl, _, rfl⟩
end Go.Proofs.YtnmcajinaigcjaaGreatDoor.C
namespace Go.Proofs.YtnmcajinaigcjaaGreatDoor.C
open Go.RowKit
variable {X : Nat → Prop}

/-- the clauses of one literal and those behind it -/
def M.pairs (a : Int) (l : List Int) : List (List Int) := (l.filter (fun b => !(a == -b))).map (fun b => M.norm [-a, -b])
def M.oneTo (zs : List Int) (k : Nat) : List (List Int) := (List.range k).flatMap fun i => M.pairs (zs.getD i 0) (zs.drop (i + 1))
theorem M.oneC_pairs (a : Int) (l : List Int) : M.oneC (a :: l) = M.pairs a l ++ M.oneC l := rfl
theorem M.oneTo_all : ∀ zs : List Int, M.oneTo zs zs.length = M.oneC zs
  | [] => rfl
  | a :: l => by
    rw [M.oneC_pairs, ← M.oneTo_all l]
    simp [M.oneTo, List.range_succ_eq_map, List.flatMap_map]
theorem M.oneTo_succ {zs : List Int} {k : Nat} {z : Int} (h : zs[k]? = some z) : M.oneTo zs (k + 1) = M.oneTo zs k ++ M.pairs z (zs.drop (k + 1)) := by
  simp [M.oneTo, List.range_succ, h]
theorem M.pairs_skip {a : Int} {l : List Int} {j : Nat} {b : Int} (h : l[j]? = some b) (he : (a == -b) = true) : M.pairs a (l.take (j + 1)) = M.pairs a (l.take j) := by
  rw [List.take_add_one, h]; simp [M.pairs, he]
theorem M.pairs_more {a : Int} {l : List Int} {j : Nat} {b : Int} (h : l[j]? = some b) (he : (a == -b) = false) : M.pairs a (l.take (j + 1)) = M.pairs a (l.take j) ++ [M.norm [-a, -b]] := by
  rw [List.take_add_one, h]; simp [M.pairs, he]
theorem M.pairs_length (a : Int) (l : List Int) : (M.pairs a l).length ≤ l.length := by
  simp only [M.pairs, List.length_map]; exact List.length_filter_le _ _
theorem M.oneTo_length (zs : List Int) (k : Nat) (h : k ≤ zs.length) : (M.oneTo zs k).length ≤ k * zs.length := by
  induction k with
  | zero => simp [M.oneTo]
  | succ k ih =>
    rw [M.oneTo_succ (List.getElem?_eq_getElem (by omega)), List.length_append, Nat.succ_mul]
    have := ih (by omega)
    have h2 := M.pairs_length (zs[k]'(by omega)) (zs.drop (k + 1))
    simp at h2; omega
theorem Ints.two (w : World) (x y : Int) (hx : I64 x) (hy : I64 y) (e : TypeId) : Ints (w.alloc (.cells #[.int .i64 x, .int .i64 y] e)) (some ⟨w.heap.size, 0, none⟩) [x, y] := by
  refine ⟨fun _ => ⟨_, 0, rfl, by simp, fun i z hz => ?_⟩, fun z hz => by simp at hz; rcases hz with rfl | rfl <;> assumption, by simp⟩
  match i, hz with
  | 0, hz => simp at hz; subst hz; simp
  | 1, hz => simp at hz; subst hz; simp
theorem mul_bound (n : Nat) (h : n ≤ 400) : 0 ≤ (n : Int) * ((n : Int) - 1) ∧ (n : Int) * ((n : Int) - 1) ≤ 160000 := by
  rcases Nat.eq_zero_or_pos n with rfl | hp
  · simp
  · obtain ⟨m, rfl⟩ : ∃ m, n = m + 1 := ⟨n - 1, by omega⟩
    have e : ((m + 1 : Nat) : Int) * (((m + 1 : Nat) : Int) - 1) = (((m + 1) * m : Nat) : Int) := by simp
    rw [e]
    have : (m + 1) * m ≤ 400 * 400 := Nat.mul_le_mul (by omega) (by omega)
    omega
theorem below_next {w w1 w2 : World} (h : Below w.heap.size w w1) (h2 : Below w1.heap.size w1 w2) : Below w.heap.size w w2 := h.trans (h2.mono h.size)
theorem one_below {w w1 w3 : World} {o : Obj} {a : Option Addr} {c n : Nat} {cs : List (List Int)} (h : Below w.heap.size w w1) (ho : OwnC X w1 w.heap.size a c cs) (hg : (w1.alloc o).grownBy w3 (Value.slice a n c).ownBlock) : Below w.heap.size w w3 :=
  (below_alloc h o).grown hg (below_alloc h o).size (fun k hk => (ho.ownBlock n k hk).1)
set_option maxHeartbeats 2000000 in
theorem one_ok (base p vars : Nat) (cs : List (List Int)) (a : Option Addr) (c : Nat) (b : Option Addr) (d : Nat) (zs : List Int) (w : World) (hF : Fm X w base p vars cs a c) (hz : Ints w b zs) (hzc : zs.length ≤ d) (hzd : b = none → d = 0)
    (hl : M.own vars zs = true) (hsm : zs.length ≤ 400) (hcs : cs.length + zs.length * zs.length ≤ 200000) :
    Calls Tryz.prog 101 #[.pointer (some ⟨p, 0, none⟩), .slice b zs.length d] w fun e w' => e = .returned .nilIface ∧ FmPost X w base p vars (cs ++ M.oneC zs) w' := by
  have h0 := hF.cell0
  have h1 := hF.cell1
  have hps := hF.lt
  have hlit := M.own_isLit hF.vars hl
  have HL := Lib.hid hlit
  clear hlit
  have hmul := (mul_bound zs.length hsm).2
  have hmul0 := (mul_bound zs.length hsm).1
  have hvv := hF.vars
  have hhas := has_any p vars b d zs w h0 hF.vars hz
  rw [hl] at hhas
  have HH := Lib.hid hhas
  clear hhas
  go_enter Tryz.func101, Tryz.ntmps101
  go_wp2_with (go_at_call 139; refine HH.out.mono ?_; rintro e w' ⟨rfl, rfl⟩)
  go_loopw [6, 29] (fun v i wr => ∃ (k n : Nat) (b' : Option Addr) (d' : Nat), k ≤ zs.length ∧ i = .int .i64 k ∧ v = .slice b' n d' ∧ n = (M.oneTo zs k).length ∧ OwnC X wr w.heap.size b' d' (M.oneTo zs k) ∧ Below w.heap.size w wr) (fun _ i _ => zs.length - (intOf i).toNat)
  case atStart => exact ⟨0, 0, none, 0, Nat.zero_le _, rfl, rfl, rfl, ⟨OffX.none X, [], World.ownsRow_nil _ _ _ _, fun i x h => by simp [M.oneTo] at h⟩, Below.refl _ _⟩
  case round =>
    obtain ⟨k, n, b', d', hk, rfl, rfl, hn, hown, hb⟩ := hrel
    have hnb : n ≤ k * zs.length := by rw [hn]; exact M.oneTo_length zs k hk
    have hkk : k * zs.length ≤ zs.length * zs.length := Nat.mul_le_mul_right _ hk
    have HN := Lib.hid hn
    have HO := Lib.hid hown
    have HB := Lib.hid hb
    clear hn hown hb
    by_cases hlt : k < zs.length
    · have hzr := hz.below HB.out
      obtain ⟨bb, off, rfl, hbl, hcl⟩ := hzr.addr (by omega)
      obtain ⟨z, hzk⟩ : ∃ z, zs[k]? = some z := ⟨zs[k], by simp [hlt]⟩
      have hcell := hcl k z hzk
      have HZ := Lib.hid hzk
      have hlz := HL.out z (List.mem_of_getElem? hzk)
      have hz2 := (M.isLit_iff z).1 hlz
      have hzlo : -20000 ≤ z := hz2.2.1
      have hzhi : z ≤ 20000 := hz2.2.2
      obtain ⟨af, hsf, hfr, hnn⟩ := slice_from 31 Tryz.underlying31 d (k + 1) hz (by omega) hzc hzd
      have hsf' : ∀ wx, (Instr.slice 31 (.slice (some ⟨bb, off, none⟩) zs.length d) (some (.int .i64 ((k : Int) + 1))) none none).run Tryz.prog wx = .ok (.slice af (zs.length - (k + 1)) (d - (k + 1))) wx := fun wx => by have := hsf wx; simpa using this
      have hdl : (zs.drop (k + 1)).length = zs.length - (k + 1) := List.length_drop
      have HFR := Lib.hid hfr
      have HDL := Lib.hid hdl
      obtain ⟨m, hm⟩ : ∃ m, m = zs.length - (k + 1) := ⟨_, rfl⟩
      rw [← hm] at hsf'
      have HM := Lib.hid hm
      have hmle : m ≤ 400 := by omega
      clear hsf hfr hnn hdl hcl hzk hz2 hzd hm
      go_wp2
      obtain ⟨wo, rfl⟩ : ∃ wo : World, wo = wr := ⟨_, rfl⟩
      go_loopw [6, 39] (fun v i wr => ∃ (j n : Nat) (b' : Option Addr) (d' : Nat), j ≤ m ∧ i = .int .i64 j ∧ v = .slice b' n d' ∧ n = (M.oneTo zs k ++ M.pairs z ((zs.drop (k + 1)).take j)).length ∧ OwnC X wr w.heap.size b' d' (M.oneTo zs k ++ M.pairs z ((zs.drop (k + 1)).take j)) ∧ Below w.heap.size w wr) (fun _ i _ => m - (intOf i).toNat)
      case atStart => exact ⟨0, n, b', d', Nat.zero_le _, rfl, rfl, by simpa [M.pairs] using HN.out, by simpa [M.pairs] using HO.out, HB.out⟩
      case round =>
        obtain ⟨j, n2, b2, d2, hj, rfl, rfl, hn2, hown2, hb2⟩ := hrel
        have hn2b : n2 ≤ k * zs.length + m := by
          rw [hn2, List.length_append]
          have h1 := M.oneTo_length zs k hk
          have h2 := M.pairs_length z ((zs.drop (k + 1)).take j)
          have h3 := List.length_take_le j (zs.drop (k + 1))
          omega
        have HN2 := Lib.hid hn2
        have HO2 := Lib.hid hown2
        have HB2 := Lib.hid hb2
        clear hn2 hown2 hb2
        by_cases hjl : j < m
        · have hfr2 := HFR.out.below HB2.out
          have hjd : j < (zs.drop (k + 1)).length := by rw [HDL.out, ← HM.out]; exact hjl
          obtain ⟨bf, offf, rfl, hbf, hcf⟩ := hfr2.addr (by omega)
          obtain ⟨y, hy⟩ : ∃ y, (zs.drop (k + 1))[j]? = some y := ⟨_, List.getElem?_eq_getElem hjd⟩
          have hcelly := hcf j y hy
          have hly := HL.out y (List.mem_of_mem_drop (List.mem_of_getElem? hy))
          have hy2 := (M.isLit_iff y).1 hly
          have hylo : -20000 ≤ y := hy2.2.1
          have hyhi : y ≤ 20000 := hy2.2.2
          have HY := Lib.hid hy
          clear hcf hy hy2 hjd
          cases hzy : (z == -y)
          · have hlits : ∀ x ∈ [-z, -y], M.isLit x = true := by
              intro x hx; simp at hx; rcases hx with rfl | rfl
              · rw [M.isLit_neg]; exact hlz
              · rw [M.isLit_neg]; exact hly
            have HLT := Lib.hid hlits
            clear hlits
            go_wp2_with fail
            refine (norm_ok _ _ [-z, -y] _ (Ints.two _ _ _ (I64.of_lit (HLT.out _ (by simp))) (I64.of_lit (HLT.out _ (by simp))) _) HLT.out).mono ?_
            rintro e w1 ⟨a1, c1, rfl, h1, h2, h3, h4, h5⟩
            have hbn := below_next (below_alloc (Below.refl _ _) _) h4
            have HB3 := Lib.hid (below_next HB2.out hbn)
            have HO3 := Lib.hid (HO2.out.below hbn)
            have H1 := Lib.hid h1
            have H2 := Lib.hid h2
            have H3 := Lib.hid h3
            have hxl := (hF.below HB3.out).xlt
            have H5 := Lib.hid (h5.x ((hF.below HB2.out).below (below_alloc (Below.refl _ _) _)).xlt)
            have HXL := Lib.hid hxl
            clear h1 h2 h3 h4 h5 hbn HO2 HB2 hxl
            go_wp2_with (at_builtin; refine wpList_append_Clauses rfl (.tmp 59) (.tmp 61) rfl w.heap.size _ _ _ (M.oneTo zs k ++ M.pairs z ((zs.drop (k + 1)).take j)) rfl HN2.out.symm (HO3.out.below (below_alloc (Below.refl _ _) _)) (some ⟨w1.heap.size, 0, none⟩) 1 1 [M.norm [-z, -y]] rfl rfl (ClsT.one (b := a1) (d := c1) (by simp) (H1.out.alloc _) (H5.out.below (below_alloc (Below.refl _ _) _)) H2.out H3.out) (HXL.out.mono (by simp)) (by omega) (put_size1 HB3.out) ?_; intro a3 c3 w3 hown3 hg3; have HO4 := Lib.hid hown3; have HB4 := Lib.hid (one_below HB3.out HO3.out hg3); clear hown3 hg3)
            go_roundw
            case rel => exact ⟨j + 1, n2 + 1, a3, c3, by omega, by go_num, rfl, by rw [M.pairs_more HY.out hzy, ← List.append_assoc, List.length_append, ← HN2.out]; rfl, by rw [M.pairs_more HY.out hzy, ← List.append_assoc]; exact HO4.out, HB4.out⟩
            case measure => simp [intOf]; omega
          · go_wp2
            go_roundw
            case rel => exact ⟨j + 1, n2, b2, d2, by omega, by go_num, rfl, by rw [M.pairs_skip HY.out hzy]; exact HN2.out, by rw [M.pairs_skip HY.out hzy]; exact HO2.out, HB2.out⟩
            case measure => simp [intOf]; omega
        · go_wp2
          go_roundw
          case rel =>
            have hfull : (zs.drop (k + 1)).take j = zs.drop (k + 1) := List.take_of_length_le (by rw [HDL.out, ← HM.out]; omega)
            have e := M.oneTo_succ HZ.out
            rw [← hfull] at e
            exact ⟨k + 1, n2, b2, d2, by omega, by go_num, rfl, by rw [e]; exact HN2.out, by rw [e]; exact HO2.out, HB2.out⟩
          case measure => simp [intOf]; omega
    · obtain rfl : k = zs.length := by omega
      have hF2 := hF.below HB.out
      have hc1 := hF2.cell1
      have hps2 := hF2.lt
      have hle := hF2.le
      have hone := M.oneTo_all zs
      have hN3 : n = (M.oneC zs).length := by rw [← hone]; exact HN.out
      have hO3 : OwnC X wr w.heap.size b' d' (M.oneC zs) := by rw [← hone]; exact HO.out
      have HN3 := Lib.hid hN3
      have HO3 := Lib.hid hO3
      have HF2 := Lib.hid hF2
      have hcn : (cs.length : Int) + (n : Int) ≤ 200000 := by omega
      clear hN3 hO3 hF2 hone HN HO
      go_wp2_with (at_builtin; refine wpList_append_Clauses rfl (.tmp 79) (.tmp 80) rfl base _ _ _ cs rfl rfl HF2.out.own _ _ _ (M.oneC zs) rfl HN3.out.symm HO3.out.clsT HF2.out.xlt (by omega) (by omega) ?_; intro a3 c3 w3 hown3 hg3; obtain ⟨hk1, hk2, hk0⟩ := HF2.out.grown hg3; have HO4 := Lib.hid hown3; have HG3 := Lib.hid hg3; clear hown3 hg3)
      go_ret
      refine ⟨rfl, ?_⟩
      obtain ⟨r1, r2⟩ := hF.stored HB.out HO4.out HG3.out (by rw [← HN3.out]; omega)
      rw [← HN3.out] at r1 r2
      exact ⟨a3, c3, r1, r2.kp hF⟩
end Go.Proofs.YtnmcajinaigcjaaGreatDoor.C
namespace Go.Proofs.YtnmcajinaigcjaaGreatDoor.C
open Go.RowKit
variable {X Y : Nat → Prop}

theorem cloneC_any (a : Option Addr) (c : Nat) (zs : List Int) (w : World) (hz : Ints w a zs) (hd : a = none → c = 0) :
    Calls Tryz.prog 44 #[.slice a zs.length c] w (NewIntsT w zs) := by
  have hlen := hz.len
  have q22 : ∀ (w : World) (a : Option Addr) (n c n' c' : Nat), (binOp .eql 98 (.slice a n c) (.slice none n' c')).run Tryz.prog w = .ok (.bool a.isNone) w := fun w a n c n' c' => Lib.run_eql_slice_nil w _ _ a n c n' c' Tryz.underlying98
  cases a with
  | none =>
    obtain rfl := hz.none_nil
    obtain rfl := hd rfl
    go_enter Tryz.func44, Tryz.ntmps44
    go_wp2
    go_ret
    exact ⟨_, _, rfl, Ints.nil _ _, Nat.zero_le _, (fun _ => rfl), Below.refl _ _, TagN.none _ _⟩
  | some ad =>
    have HD := Lib.hid hd
    clear hd
    go_enter Tryz.func44, Tryz.ntmps44
    go_wp2_with (at_builtin; refine wpList_append_Ints rfl (.tmp 5) (.tmp 6) 98 rfl Tryz.underlying98 w.heap.size _ _ _ [] rfl rfl (OwnI.made0 w _ (Nat.le_refl _)) _ _ _ zs rfl rfl (hz.alloc _) HD.out (by omega) (by simp) ?_; intro a1 c1 w1 hown1 hg1 hB1; have HB1 := Lib.hid (put_below1 hB1); have HO1 := Lib.hid hown1; clear hg1 hown1 hB1)
    go_ret
    have ho : OwnI w1 w.heap.size a1 c1 zs := HO1.out
    exact ⟨a1, c1, rfl, ho.ints hz.wf hlen, ho.cap.1, ho.cap.2, HB1.out, ho.tagN⟩
theorem OwnC.stored {w : World} {base g c : Nat} {ds : List (List Int)} (h : OwnC X w base (some ⟨g, 0, none⟩) c ds) (j : Nat) {b : Option Addr} {d : Nat} {x : List Int} (hx : Ints w b x) (ht : TagX X w b) (hc : x.length ≤ d) (hd : b = none → d = 0) :
    OwnC X (w.setCell ⟨g, j, none⟩ (.slice b x.length d)) base (some ⟨g, 0, none⟩) c (ds.set j x) := by
  obtain ⟨_, cur, hg⟩ := h.row _ rfl
  obtain ⟨hoff, vals, hr, hv⟩ := h
  have hvl : vals.length = ds.length := by simpa using hr.1
  have hk : ∀ {b' : Option Addr} {zs : List Int}, Ints w b' zs → TagX X w b' → Ints (w.setCell ⟨g, j, none⟩ (.slice b x.length d)) b' zs ∧ TagX X (w.setCell ⟨g, j, none⟩ (.slice b x.length d)) b' := by
    intro b' zs h1 h2
    have r := Ints.keepG (World.ownsRow.stored hr j (.slice b x.length d)).2 (fun k e => by cases e; exact ⟨cur, _, hg, by decide⟩) h1 h2.tag
    exact ⟨r.1, h2.off, r.2⟩
  refine ⟨hoff, vals.set j (.slice b x.length d), by rw [List.length_set]; exact (World.ownsRow.stored hr j _).1, fun i y hy => ?_⟩
  by_cases hij : i = j
  · subst hij
    have hi : i < ds.length := by
      rcases Nat.lt_or_ge i (ds.set i x).length with h' | h'
      · simpa using h'
      · rw [List.getElem?_eq_none h'] at hy; cases hy
    rw [List.getElem?_set_self hi] at hy
    cases hy
    exact ⟨b, d, List.getElem?_set_self (by omega), (hk hx ht).1, (hk hx ht).2, hc, hd⟩
  · rw [List.getElem?_set_ne (fun e => hij e.symm)] at hy
    obtain ⟨a1, c1, e1, e2, e3, e4, e5⟩ := hv i y hy
    exact ⟨a1, c1, by rw [List.getElem?_set_ne (fun e => hij e.symm)]; exact e1, (hk e2 e3).1, (hk e2 e3).2, e4, e5⟩
theorem OwnC.cell {w : World} {base g c : Nat} {ds : List (List Int)} (h : OwnC X w base (some ⟨g, 0, none⟩) c ds) {i : Nat} {x : List Int} (hx : ds[i]? = some x) :
    ∃ a' c', w.cell? ⟨g, i, none⟩ = some (.slice a' x.length c') ∧ Ints w a' x ∧ TagX X w a' ∧ x.length ≤ c' ∧ (a' = none → c' = 0) := by
  obtain ⟨_, vals, hr, hv⟩ := h
  obtain ⟨a1, c1, e1, r⟩ := hv i x hx
  refine ⟨a1, c1, ?_, r⟩
  have := hr.cells (g := g) rfl i _ e1
  rw [addr_add, Nat.zero_add] at this
  exact this
theorem OwnC.frozen {w : World} {base g c : Nat} {ds : List (List Int)} (h : OwnC X w base (some ⟨g, 0, none⟩) c ds) (i : Nat) : w.frozen? ⟨g, i, none⟩ = false := by
  obtain ⟨_, cur, hg⟩ := h.row _ rfl
  simp [World.frozen?, hg]
theorem OwnC.addr0 {w : World} {base : Nat} {a : Option Addr} {c : Nat} {cs : List (List Int)} (h : OwnC X w base a c cs) (h0 : 0 < cs.length) : ∃ g, a = some ⟨g, 0, none⟩ ∧ g < w.heap.size := by
  obtain ⟨_, vals, hr, _⟩ := h
  rcases hr.2 with ⟨_, hn⟩ | ⟨g, cap, cur, e, _, hg, _⟩
  · omega
  · injection e with e1; exact ⟨g, e1, (Array.getElem?_eq_some_iff.1 hg).1⟩
theorem OwnC.cls {w : World} {base : Nat} {a : Option Addr} {c : Nat} {cs : List (List Int)} (h : OwnC X w base a c cs) (hl : cs.length ≤ 1000000) : Cls w a cs := by
  refine ⟨fun h0 => ?_, by omega⟩
  obtain ⟨g, rfl, hlt⟩ := h.addr0 h0
  refine ⟨g, 0, rfl, hlt, fun i x hx => ?_⟩
  obtain ⟨a', c', h1, h2, _⟩ := h.cell hx
  exact ⟨a', c', by rw [Nat.zero_add]; exact h1, h2⟩
theorem made_clauses (n : Nat) : (madeCells (Value.slice none 0 0).cells (n * 1)).toList = List.replicate n (Value.slice none 0 0) := by
  apply List.ext_getElem?
  intro i
  simp only [madeCells, Value.cells, Nat.mul_one]
  by_cases h : i < n
  · simp [h, Nat.mod_one]
  · simp [h]
/-- make([]api.Clause, n) -/
theorem wpList_make_Clauses {w : World} {ops : Array Oper} {rest : List Oper} {o : Oper} {act : Act} {Q : Exit → Act → World → Prop} (hgd : o.guard = none) (l c : Operand) (hop : o.op = Op.makeSlice 56 l c)
    (base n : Nat) (hl : act.eval l = .int .i64 n) (hc : act.eval c = .int .i64 n) (hn : n ≤ 1000000) (hbase : base ≤ w.heap.size) (hX : XLt X w)
    (h : ∀ w', OwnC X w' base (some ⟨w.heap.size, 0, none⟩) n (List.replicate n []) → Below w.heap.size w w' → wpList Tryz.prog ops Q rest (act.put o.dst (.slice (some ⟨w.heap.size, 0, none⟩) n n)) w') :
    wpList Tryz.prog ops Q (o :: rest) act w := by
  obtain ⟨i0, hi, hz0, hz1, hz2⟩ := info_parts Tryz.infoClause
  refine wpList_make_full w hgd l c 56 hop base 98 i0 (.slice none 0 0) 1 Tryz.underlying56 hi hz0 hz1 .i64 .i64 n n n hl hc rfl rfl (by rw [hz2]; omega) (by unfold maxLen; omega) hbase ?_
  intro w' h1 h2
  rw [made_clauses] at h1
  refine h w' ⟨(fun ad e hx => by cases e; have := hX _ hx; simp at this), List.replicate n (Value.slice none 0 0), by rw [List.length_replicate]; exact h1, fun i x hx => ?_⟩ ⟨h2.os, h2.tape, h2.output, h2.size, fun k hk => h2.block k hk (by simp)⟩
  rw [List.getElem?_replicate] at hx
  split at hx
  · cases hx
    exact ⟨none, 0, by rw [List.getElem?_replicate, if_pos (by assumption)]; rfl, Ints.nil _ _, ⟨OffX.none X, TagI.none _⟩, Nat.le_refl _, fun _ => rfl⟩
  · cases hx
/-- the first k clauses, then none -/
def M.clTo (cs : List (List Int)) (k : Nat) : List (List Int) := cs.take k ++ List.replicate (cs.length - k) []
theorem M.clTo_set {cs : List (List Int)} {k : Nat} {x : List Int} (h : cs[k]? = some x) : (M.clTo cs k).set k x = M.clTo cs (k + 1) := by
  have hk : k < cs.length := by
    rcases Nat.lt_or_ge k cs.length with h' | h'
    · exact h'
    · rw [List.getElem?_eq_none h'] at h; cases h
  unfold M.clTo
  rw [show cs.length - k = (cs.length - (k + 1)) + 1 by omega, List.replicate_succ, List.set_append_right _ _ (by simp; omega)]
  rw [List.length_take, Nat.min_eq_left (by omega), Nat.sub_self, List.set_cons_zero, List.take_add_one, h]
  simp
def ClausesPost (Y : Nat → Prop) (w : World) (cs : List (List Int)) (e : Ending) (w' : World) : Prop :=
  e = .returned (.slice (some ⟨w.heap.size, 0, none⟩) cs.length cs.length) ∧ OwnC Y w' w.heap.size (some ⟨w.heap.size, 0, none⟩) cs.length cs ∧ Below w.heap.size w w'
set_option maxHeartbeats 1000000 in
theorem clauses_any (base p vars : Nat) (cs : List (List Int)) (a : Option Addr) (c : Nat) (w : World) (hF : Fm X w base p vars cs a c) (hY : XLt Y w) :
    Calls Tryz.prog 18 #[.pointer (some ⟨p, 0, none⟩)] w (ClausesPost Y w cs) := by
  have h1 := hF.cell1
  have hps := hF.lt
  have hlen := hF.len
  have H1 := Lib.hid h1
  go_enter Tryz.func18, Tryz.ntmps18
  go_wp2_with (at_make; refine wpList_make_Clauses rfl (.tmp 10) (.tmp 10) rfl w.heap.size cs.length rfl rfl hlen (Nat.le_refl _) hY ?_; intro w1 hown hb1; have hk1 := (hF.below hb1).cell1; have HO := Lib.hid hown; have HB1 := Lib.hid hb1; clear hown hb1)
  go_loopw [4, 5, 17] (fun _ _ i wr => ∃ k : Nat, k ≤ cs.length ∧ i = .int .i64 k ∧ OwnC Y wr w.heap.size (some ⟨w.heap.size, 0, none⟩) cs.length (M.clTo cs k) ∧ Below w.heap.size w wr) (fun _ _ i _ => cs.length - (intOf i).toNat)
  case atStart => exact ⟨0, Nat.zero_le _, rfl, by simpa [M.clTo] using HO.out, HB1.out⟩
  case round =>
    obtain ⟨k, hk, rfl, ho, hb⟩ := hrel
    have HOW := Lib.hid ho
    have HB := Lib.hid hb
    clear ho hb h1 hk1
    by_cases hlt : k < cs.length
    · have hFr := hF.below HB.out
      obtain ⟨g, rfl, hgl⟩ := hFr.own.addr0 (by omega)
      obtain ⟨x, hx⟩ : ∃ x, cs[k]? = some x := ⟨cs[k], by simp [hlt]⟩
      obtain ⟨a', c', hcell, hi, ht, hcp, hnn⟩ := hFr.own.cell hx
      have HX := Lib.hid hx
      have HNN := Lib.hid hnn
      clear hx hnn hFr
      go_wp2_with fail
      refine (cloneC_any _ _ _ _ hi HNN.out).mono ?_
      rintro e w2 ⟨a2, c2, rfl, i1, i2, i3, i4, i5⟩
      have hO2 := HOW.out.below i4
      have hfz := hO2.frozen k
      obtain ⟨y, hy⟩ : ∃ y, (M.clTo cs k)[k]? = some y := ⟨_, List.getElem?_eq_getElem (by simp [M.clTo]; omega)⟩
      obtain ⟨a3, c3, hck, _⟩ := hO2.cell hy
      have HI1 := Lib.hid i1
      have HI3 := Lib.hid i3
      have HI4 := Lib.hid i4
      have HI5 := Lib.hid (i5.x (hY.mono HB.out.size))
      have HO2 := Lib.hid hO2
      clear hy hO2 i1 i3 i4 i5
      go_wp2
      go_roundw
      case rel =>
        refine ⟨k + 1, by omega, by go_num, ?_, (below_next HB.out HI4.out).setCell (Nat.le_refl _) _⟩
        rw [← M.clTo_set HX.out]
        exact HO2.out.stored k HI1.out HI5.out i2 HI3.out
      case measure => simp [intOf]; omega
    · go_wp2
      go_ret
      obtain rfl : k = cs.length := by omega
      exact ⟨rfl, by simpa [M.clTo] using HOW.out, HB.out⟩
theorem vars_any (p vars : Nat) (w : World) (h0 : w.cell? ⟨p, 0, none⟩ = some (.int .i64 vars)) :
    Calls Tryz.prog 19 #[.pointer (some ⟨p, 0, none⟩)] w fun e w' => e = .returned (.int .i64 vars) ∧ w = w' := by
  go_enter Tryz.func19, Tryz.ntmps19
  go_wp2
  go_ret
  exact ⟨rfl, rfl⟩
end Go.Proofs.YtnmcajinaigcjaaGreatDoor.C
namespace Go.Proofs.YtnmcajinaigcjaaGreatDoor.C
open Go.RowKit

theorem Tryz.infoBool : (Tryz.prog.info? 4).map (fun i => (i.zero, i.size, i.bytes)) = some (some (.bool false), 1, 1) := by kernel_rfl

def OwnB (w : World) (base : Nat) (a : Option Addr) (c : Nat) (m : List Bool) : Prop :=
  w.ownsRow base 4 1 (.slice a m.length c) m.length (m.map Value.bool)
theorem OwnB.parts {w : World} {base : Nat} {a : Option Addr} {c : Nat} {ys : List Bool} (h : OwnB w base a c ys) :
    (a = none ∧ c = 0 ∧ ys = []) ∨ ∃ g cur, a = some ⟨g, 0, none⟩ ∧ base ≤ g ∧ g < w.heap.size ∧ w.heap[g]? = some (.cells cur 4 (0, 0)) ∧ ys.length ≤ c ∧ c ≤ maxLen ∧ cur.size = c ∧ cur.toList.take ys.length = ys.map Value.bool := by
  rcases h.2 with ⟨e, hn⟩ | ⟨g, cap, cur, e, hb, hg, hn, hm, hs, ht⟩
  · injection e with e1 e2 e3
    exact .inl ⟨e1, e3, List.eq_nil_of_length_eq_zero e2⟩
  · injection e with e1 e2 e3
    subst e1 e3
    exact .inr ⟨g, cur, rfl, hb, (Array.getElem?_eq_some_iff.1 hg).1, hg, hn, hm, by simpa using hs, by simpa using ht⟩
theorem OwnB.cell {w : World} {base g c : Nat} {ys : List Bool} (h : OwnB w base (some ⟨g, 0, none⟩) c ys) {i : Nat} {z : Bool} (hz : ys[i]? = some z) : w.cell? ⟨g, i, none⟩ = some (.bool z) := by
  rcases h.parts with ⟨e, _⟩ | ⟨g', cur, e, hb, hlt, hg, hn, hm, hs, ht⟩
  · cases e
  · cases e
    rw [cell_of_cells hg]
    have hi : i < ys.length := by
      rcases Nat.lt_or_ge i ys.length with h' | h'
      · exact h'
      · rw [List.getElem?_eq_none h'] at hz; cases hz
    have e1 : (cur.toList.take ys.length)[i]? = (ys.map Value.bool)[i]? := by rw [ht]
    rw [List.getElem?_take, if_pos hi, List.getElem?_map, hz, Array.getElem?_toList] at e1
    exact e1
theorem OwnB.bools {w : World} {base : Nat} {a : Option Addr} {c : Nat} {ys : List Bool} (h : OwnB w base a c ys) (hl : ys.length ≤ 140737488351232) : Bools w a ys := by
  refine ⟨fun h0 => ?_, hl⟩
  rcases h.parts with ⟨_, _, rfl⟩ | ⟨g, cur, rfl, hb, hlt, hg, _⟩
  · simp at h0
  · exact ⟨g, 0, rfl, hlt, fun i z hz => by rw [Nat.zero_add]; exact h.cell hz⟩
theorem OwnB.kept {w w' : World} {base : Nat} {a : Option Addr} {c : Nat} {ys : List Bool} (h : OwnB w base a c ys) (hk : ∀ g cur, g < w.heap.size → w.heap[g]? = some (.cells cur 4 (0, 0)) → w'.heap[g]? = w.heap[g]?) : OwnB w' base a c ys := by
  refine ⟨h.1, ?_⟩
  rcases h.2 with h0 | ⟨g, cap, cur, e, hb, hg, hn, hm, hs, ht⟩
  · exact .inl h0
  · exact .inr ⟨g, cap, cur, e, hb, (hk g cur (Array.getElem?_eq_some_iff.1 hg).1 hg).trans hg, hn, hm, hs, ht⟩
theorem OwnB.below {w w' : World} {base : Nat} {a : Option Addr} {c : Nat} {ys : List Bool} (h : OwnB w base a c ys) (hb : Below w.heap.size w w') : OwnB w' base a c ys := h.kept fun g _ hlt _ => hb.block g hlt
theorem OwnB.frozen {w : World} {base g c : Nat} {ys : List Bool} (h : OwnB w base (some ⟨g, 0, none⟩) c ys) (i : Nat) : w.frozen? ⟨g, i, none⟩ = false := by
  rcases h.parts with ⟨e, _⟩ | ⟨g', cur, e, _, _, hg, _⟩
  · cases e
  · cases e; simp [World.frozen?, hg]
theorem OwnB.stored {w : World} {base g c : Nat} {ys : List Bool} (h : OwnB w base (some ⟨g, 0, none⟩) c ys) (j : Nat) (u : Bool) : OwnB (w.setCell ⟨g, j, none⟩ (.bool u)) base (some ⟨g, 0, none⟩) c (ys.set j u) := by
  have := (World.ownsRow.stored h j (.bool u)).1
  unfold OwnB
  rw [List.length_set, List.map_set]; exact this
theorem made_bools (n : Nat) : (madeCells (Value.bool false).cells (n * 1)).toList = (List.replicate n false).map Value.bool := by
  apply List.ext_getElem?
  intro i
  simp only [madeCells, Value.cells, Nat.mul_one, List.map_replicate]
  by_cases h : i < n
  · simp [h, Nat.mod_one]
  · simp [h]
/-- make([]bool, n) -/
theorem wpList_make_Bools {w : World} {ops : Array Oper} {rest : List Oper} {o : Oper} {act : Act} {Q : Exit → Act → World → Prop} (hgd : o.guard = none) (l c : Operand) (hop : o.op = Op.makeSlice 23 l c)
    (base n : Nat) (hl : act.eval l = .int .i64 n) (hc : act.eval c = .int .i64 n) (hn : n ≤ 140737488351232) (hbase : base ≤ w.heap.size)
    (h : ∀ w', OwnB w' base (some ⟨w.heap.size, 0, none⟩) n (List.replicate n false) → Below w.heap.size w w' → w.heap.size < w'.heap.size → wpList Tryz.prog ops Q rest (act.put o.dst (.slice (some ⟨w.heap.size, 0, none⟩) n n)) w') :
    wpList Tryz.prog ops Q (o :: rest) act w := by
  obtain ⟨i0, hi, hz0, hz1, hz2⟩ := info_parts Tryz.infoBool
  refine wpList_make_full w hgd l c 23 hop base 4 i0 (.bool false) 1 Tryz.underlying23 hi hz0 hz1 .i64 .i64 n n n hl hc rfl rfl (by rw [hz2]; omega) (by unfold maxLen; omega) hbase ?_
  intro w' h1 h2
  rw [made_bools] at h1
  have h3 : OwnB w' base (some ⟨w.heap.size, 0, none⟩) n (List.replicate n false) := by
    unfold OwnB; rw [List.length_replicate]; exact h1
  refine h w' h3 ⟨h2.os, h2.tape, h2.output, h2.size, fun k hk => h2.block k hk (by simp)⟩ ?_
  rcases h3.parts with ⟨e, _⟩ | ⟨g, cur, e, _, hlt, _⟩
  · cases e
  · cases e; exact hlt
theorem OwnB.alloc {w : World} {base : Nat} {a : Option Addr} {c : Nat} {ys : List Bool} (h : OwnB w base a c ys) (o : Obj) : OwnB (w.alloc o) base a c ys := h.below ((Below.refl _ _).alloc (Nat.le_refl _) o)
theorem OwnB.drew {w : World} {base : Nat} {a : Option Addr} {c : Nat} {ys : List Bool} (h : OwnB w base a c ys) : OwnB w.drew base a c ys := h
theorem OwnB.made0 (w : World) (base : Nat) (hb : base ≤ w.heap.size) : OwnB (w.alloc (.cells #[] 4)) base (some ⟨w.heap.size, 0, none⟩) 0 [] :=
  World.ownsRow_made w #[] 0 hb (by decide) rfl
theorem OwnB.weaken {w : World} {base b2 : Nat} {a : Option Addr} {c : Nat} {ys : List Bool} (h : OwnB w base a c ys) (hb : b2 ≤ base) : OwnB w b2 a c ys := by
  refine ⟨h.1, ?_⟩
  rcases h.2 with h0 | ⟨g, cap, cur, e, hbg, r⟩
  · exact .inl h0
  · exact .inr ⟨g, cap, cur, e, by omega, r⟩
theorem OwnB.ge {w : World} {base : Nat} {a : Option Addr} {c : Nat} {ys : List Bool} (h : OwnB w base a c ys) : ∀ k n, (Value.slice a n c).ownBlock = some k → base ≤ k := by
  intro k n hk
  rcases h.parts with ⟨rfl, _, _⟩ | ⟨g, cur, rfl, hb, _⟩
  · simp [Value.ownBlock] at hk
  · simp [Value.ownBlock] at hk; omega
/-- append([]bool{}, ys...) -/
theorem wpList_append_Bools {w : World} {ops : Array Oper} {rest : List Oper} {o : Oper} {act : Act} {Q : Exit → Act → World → Prop} (hgd : o.guard = none) (s x : Operand)
    (ho : o.op = .call { callee := .builtin .append, args := #[s, x], argTypes := #[23, 23] })
    (base : Nat) (a : Option Addr) (n c : Nat) (ys : List Bool) (hs : act.eval s = .slice a n c) (hn : ys.length = n) (hown : OwnB w base a c ys)
    (ad : Addr) (m d : Nat) (zs : List Bool) (hx : act.eval x = .slice (some ad) m d) (hm : zs.length = m) (hz : Bools w (some ad) zs)
    (hlen : n + m ≤ 1000000) (hbase : base ≤ w.heap.size)
    (h : ∀ a' c' w', OwnB w' base a' c' (ys ++ zs) → Below base w w' → wpList Tryz.prog ops Q rest (act.put o.dst (.slice a' (n + m) c')) w') :
    wpList Tryz.prog ops Q (o :: rest) act w := by
  subst hn hm
  obtain ⟨i0, hi, hz0, hz1, hz2⟩ := info_parts Tryz.infoBool
  refine wpList_append_own w hgd s x 23 ho base 4 i0 (.bool false) 1 1 Tryz.underlying23 hi hz0 hz1 hz2 rfl (by decide) _ _ _ hs hown ad zs.length d (zs.map Value.bool) hx (by simp) ?_ ?_ ?_ ?_ hbase ?_
  · intro j u hj
    have hjl : j < zs.length := by
      rcases Nat.lt_or_ge j zs.length with h' | h'
      · exact h'
      · rw [List.getElem?_eq_none (by simpa using h')] at hj; cases hj
    obtain ⟨b', off, e, _, hc⟩ := hz.addr (by omega)
    cases e
    rw [List.getElem?_map, List.getElem?_eq_getElem hjl] at hj
    cases hj
    rw [addr_add]; exact hc j _ (List.getElem?_eq_getElem hjl)
  · intro u hu; simp at hu; rcases hu with ⟨_, rfl⟩ | ⟨_, rfl⟩ <;> rfl
  · unfold maxLen; omega
  · omega
  · intro v' w' h1 h2 _
    have h1' : w'.ownsRow base 4 1 v' (ys ++ zs).length ((ys ++ zs).map Value.bool) := by simpa using h1
    have : ∃ a' c', v' = .slice a' (ys ++ zs).length c' := by
      rcases h1'.2 with ⟨e, hn⟩ | ⟨g, cap, cur, e, _⟩
      · exact ⟨none, 0, by rw [e, hn]⟩
      · exact ⟨_, _, e⟩
    obtain ⟨a', c', rfl⟩ := this
    rw [show (ys ++ zs).length = ys.length + zs.length from List.length_append]
    exact h a' c' w' h1' ((Below.refl base w).grown h2 hbase (fun k hk => hown.ge k _ hk))
end Go.Proofs.YtnmcajinaigcjaaGreatDoor.C
namespace Go.Proofs.YtnmcajinaigcjaaGreatDoor.C
open Go.RowKit

theorem Tryz.infoBools : (Tryz.prog.info? 23).map (fun i => (i.zero, i.size, i.bytes)) = some (some (.slice none 0 0), 1, 24) := by kernel_rfl

/-- rows of bools, from block number base on -/
def OwnR (w : World) (base : Nat) (a : Option Addr) (c : Nat) (ms : List (List Bool)) : Prop :=
  ∃ vals : List Value, w.ownsRow base 23 1 (.slice a ms.length c) ms.length vals ∧
    ∀ (i : Nat) (m : List Bool), ms[i]? = some m → ∃ a', vals[i]? = some (Value.slice a' m.length m.length) ∧ OwnB w base a' m.length m
theorem OwnR.row {w : World} {base : Nat} {a : Option Addr} {c : Nat} {ms : List (List Bool)} (h : OwnR w base a c ms) : ∀ ad, a = some ad → base ≤ ad.block ∧ ∃ cur, w.heap[ad.block]? = some (.cells cur 23 (0, 0)) := by
  intro ad e
  obtain ⟨vals, ho, _⟩ := h
  rcases ho.2 with ⟨e0, _⟩ | ⟨g, cap, cur, e0, hb, hg, _⟩
  · injection e0 with e1; rw [e] at e1; cases e1
  · injection e0 with e1; rw [e] at e1; cases e1; exact ⟨hb, cur, hg⟩
theorem OwnR.below {w w' : World} {base : Nat} {a : Option Addr} {c : Nat} {ms : List (List Bool)} (h : OwnR w base a c ms) (hb : Below w.heap.size w w') : OwnR w' base a c ms := by
  obtain ⟨vals, ho, hv⟩ := h
  refine ⟨vals, ho.kept (row := none) ⟨hb.os, hb.tape, hb.output, hb.size, fun k hk _ => hb.block k hk⟩ ?_, fun i x hx => ?_⟩
  · cases a <;> simp [Value.ownBlock]
  · obtain ⟨a', h1, h2⟩ := hv i x hx
    exact ⟨a', h1, h2.below hb⟩
theorem OwnR.cellN {w : World} {base : Nat} {a : Option Addr} {c : Nat} {ms : List (List Bool)} (h : OwnR w base a c ms) {i : Nat} {m : List Bool} (hm : ms[i]? = some m) :
    ∃ g a', a = some ⟨g, 0, none⟩ ∧ w.cell? ⟨g, i, none⟩ = some (.slice a' m.length m.length) ∧ OwnB w base a' m.length m := by
  obtain ⟨vals, hr, hv⟩ := h
  obtain ⟨a1, e1, r⟩ := hv i m hm
  rcases hr.2 with ⟨_, hn⟩ | ⟨g, cap, cur, e, _, hg, _⟩
  · rw [List.eq_nil_of_length_eq_zero hn] at hm; simp at hm
  · injection e with e1' e2 e3
    subst e1'
    have := hr.cells (g := g) rfl i _ e1
    rw [addr_add, Nat.zero_add] at this
    exact ⟨g, a1, rfl, this, r⟩
theorem OwnR.cell {w : World} {base : Nat} {a : Option Addr} {c : Nat} {ms : List (List Bool)} (h : OwnR w base a c ms) {i : Nat} {m : List Bool} (hm : ms[i]? = some m) :
    ∃ g a' c', a = some ⟨g, 0, none⟩ ∧ w.cell? ⟨g, i, none⟩ = some (.slice a' m.length c') ∧ OwnB w base a' c' m := by
  obtain ⟨g, a', h1, h2, h3⟩ := h.cellN hm
  exact ⟨g, a', _, h1, h2, h3⟩
/-- append(rows, m) -/
theorem wpList_append_Row {w : World} {ops : Array Oper} {rest : List Oper} {o : Oper} {act : Act} {Q : Exit → Act → World → Prop} (hgd : o.guard = none) (s x : Operand)
    (ho : o.op = .call { callee := .builtin .append, args := #[s, x], argTypes := #[85, 85] })
    (base : Nat) (a : Option Addr) (n c : Nat) (ms : List (List Bool)) (hs : act.eval s = .slice a n c) (hn : ms.length = n) (hown : OwnR w base a c ms)
    (ad : Addr) (b : Option Addr) (k d : Nat) (m : List Bool) (hx : act.eval x = .slice (some ad) 1 1) (hcell : w.cell? ad = some (.slice b k d)) (hk : m.length = k) (hd : k = d) (hb : OwnB w base b d m) (hlen : n + 1 ≤ 1000000) (hbase : base ≤ w.heap.size)
    (h : ∀ a' c' w', OwnR w' base a' c' (ms ++ [m]) → Below base w w' → wpList Tryz.prog ops Q rest (act.put o.dst (.slice a' (n + 1) c')) w') :
    wpList Tryz.prog ops Q (o :: rest) act w := by
  subst hn hk hd
  obtain ⟨i0, hi, hz0, hz1, hz2⟩ := info_parts Tryz.infoBools
  have hrow := hown.row
  obtain ⟨vals, hr, hvals⟩ := hown
  have hvl : vals.length = ms.length := by simpa using hr.1
  refine wpList_append_own w hgd s x 85 ho base 23 i0 (.slice none 0 0) 1 24 Tryz.underlying85 hi hz0 hz1 hz2 rfl (by decide) _ _ _ hs hr ad 1 1 [.slice b m.length m.length] hx rfl ?_ ?_ ?_ ?_ hbase ?_
  · intro j u hj
    match j, hj with
    | 0, hj => simp at hj; subst hj; exact hcell
  · intro u hu; simp at hu; subst hu; rfl
  · unfold maxLen; omega
  · omega
  · intro v' w' h1 h2 _
    have hob : ∀ k, (Value.slice a ms.length c).ownBlock = some k → base ≤ k ∧ ∃ cur, w.heap[k]? = some (.cells cur 23 (0, 0)) := by
      intro k hk
      cases a with
      | none => simp [Value.ownBlock] at hk
      | some ad => simp [Value.ownBlock] at hk; subst hk; exact hrow ad rfl
    have hkp : ∀ {b' : Option Addr} {d' : Nat} {m' : List Bool}, OwnB w base b' d' m' → OwnB w' base b' d' m' := by
      intro b' d' m' h3
      refine h3.kept fun g cur hlt hg => h2.block g hlt fun e => ?_
      obtain ⟨_, cur', hc⟩ := hob g e.symm
      rw [hg] at hc; cases hc
    have hbel : Below base w w' := (Below.refl base w).grown h2 hbase (fun k hk => (hob k hk).1)
    have : ∃ a' c', v' = .slice a' (ms.length + 1) c' := by
      rcases h1.2 with ⟨_, hn⟩ | ⟨g, cap, cur, e, _⟩
      · omega
      · exact ⟨_, _, e⟩
    obtain ⟨a', c', rfl⟩ := this
    refine h a' c' w' ⟨vals ++ [.slice b m.length m.length], by simpa using h1, fun i y hy => ?_⟩ hbel
    by_cases hil : i < ms.length
    · rw [List.getElem?_append_left hil] at hy
      obtain ⟨a1, e1, e2⟩ := hvals i y hy
      exact ⟨a1, by rw [List.getElem?_append_left (by omega)]; exact e1, hkp e2⟩
    · have hil' : i = ms.length := by
        rcases Nat.lt_or_ge i (ms ++ [m]).length with h' | h'
        · simp at h'; omega
        · rw [List.getElem?_eq_none h'] at hy; cases hy
      subst hil'
      rw [List.getElem?_append_right (Nat.le_refl _)] at hy
      simp at hy; subst hy
      exact ⟨b, by rw [List.getElem?_append_right (by omega)]; simp [hvl], hkp hb⟩
/-- the k-th model of n variables -/
def M.model (n k : Nat) : List Bool := (List.range n).map fun i => k.testBit i
theorem M.model_length (n k : Nat) : (M.model n k).length = n := by simp [M.model]
def M.modelTo (n k j : Nat) : List Bool := (List.range j).map (fun i => k.testBit i) ++ List.replicate (n - j) false
theorem M.modelTo_set (n k j : Nat) (h : j < n) : (M.modelTo n k j).set j (k.testBit j) = M.modelTo n k (j + 1) := by
  unfold M.modelTo
  rw [show n - j = (n - (j + 1)) + 1 by omega, List.replicate_succ, List.set_append_right _ _ (by simp)]
  simp [List.range_succ]
theorem M.modelTo_length (n k j : Nat) (h : j ≤ n) : (M.modelTo n k j).length = n := by simp [M.modelTo]; omega
def M.models (n k : Nat) : List (List Bool) := (List.range k).map (M.model n)
theorem M.models_length (n k : Nat) : (M.models n k).length = k := by simp [M.models]
theorem M.models_succ (n k : Nat) : M.models n (k + 1) = M.models n k ++ [M.model n k] := by simp [M.models, List.range_succ]
theorem OwnR.made0 (w : World) (base : Nat) (hb : base ≤ w.heap.size) : OwnR (w.alloc (.cells #[] 23)) base (some ⟨w.heap.size, 0, none⟩) 0 [] :=
  ⟨[], World.ownsRow_made w #[] 0 hb (by decide) rfl, fun i m h => by simp at h⟩
def ModelsPost (w : World) (n N : Nat) (e : Ending) (w' : World) : Prop :=
  ∃ a c, e = .returned (.slice a N c) ∧ OwnR w' w.heap.size a c (M.models n N) ∧ Below w.heap.size w w'
theorem bit_at (k j : Nat) (hk : k ≤ 1000000) : (bits BinOp.and IntKind.i64 ((k : Int) / 2 ^ j) 1 == 1) = k.testBit j := by
  have e : ((k : Int) / 2 ^ j) = ((k / 2 ^ j : Nat) : Int) := by simp
  have hle : k / 2 ^ j ≤ k := Nat.div_le_self _ _
  rw [e, Go.Proofs.and_one _ (by omega), Nat.testBit_eq_decide_div_mod_eq, Bool.eq_iff_iff]
  simp only [beq_iff_eq, decide_eq_true_eq]
  omega
end Go.Proofs.YtnmcajinaigcjaaGreatDoor.C
namespace Go.Proofs.YtnmcajinaigcjaaGreatDoor.C
open Go.RowKit Go.Shelf
variable {X : Nat → Prop}

/-- the formula with one variable more -/
theorem Fm.inc {w : World} {base p vars : Nat} {cs : List (List Int)} {a : Option Addr} {c : Nat} (h : Fm X w base p vars cs a c) (hv : vars < 20000) :
    Fm X (w.setCell ⟨p, 0, none⟩ (.int .i64 ((vars : Int) + 1))) base p (vars + 1) cs a c ∧ KeepsF p a w (w.setCell ⟨p, 0, none⟩ (.int .i64 ((vars : Int) + 1))) := by
  refine h.setV ⟨rfl, rfl, rfl, by simp [World.setCell], fun k hk hkp => Below.heap_setCell _ _ _ _ hkp⟩ ?_ (by omega)
  simp [World.setCell, Array.getElem?_modify, h.blk]
/-- what a gate hands back -/
def GateOk (X : Nat → Prop) (w : World) (base p vars : Nat) (cs : List (List Int)) (e : Ending) (w' : World) : Prop :=
  e = .returned (.tuple #[.int .i64 ((vars : Int) + 1), .nilIface]) ∧ FmPost X w base p (vars + 1) cs w'
theorem FmPost.kp_trans {w w1 w2 : World} {base p vars : Nat} {cs : List (List Int)} (h : Kp X base w w1) (h2 : FmPost X w1 base p vars cs w2) : FmPost X w base p vars cs w2 := by
  obtain ⟨a, c, h3, h4⟩ := h2
  exact ⟨a, c, h3, h.trans h4⟩
theorem OwnI.one (w : World) (base : Nat) (hb : base ≤ w.heap.size) (x : Int) : OwnI (w.alloc (.cells #[.int .i64 x] 3)) base (some ⟨w.heap.size, 0, none⟩) 1 [x] :=
  ⟨rfl, .inr ⟨w.heap.size, 1, #[.int .i64 x], rfl, hb, by show (w.heap.push _)[w.heap.size]? = _; simp, Nat.le_refl _, by decide, rfl, rfl⟩⟩
end Go.Proofs.YtnmcajinaigcjaaGreatDoor.C
namespace Go.Proofs.YtnmcajinaigcjaaGreatDoor.C
open Go.RowKit Go.Shelf
variable {X : Nat → Prop}

/-- a box that the closure reads -/
def Box (w : World) (q : Nat) (v : Value) (t : TypeId) : Prop := w.heap[q]? = some (.cells #[v] t (0, 0))
theorem Box.keep {w w' : World} {base q : Nat} {v : Value} {t : TypeId} (h : Box w q v t) (hk : Kp X base w w') (h1 : t ≠ 98) (h2 : t ≠ 97) : Box w' q v t :=
  (hk.block q (Array.getElem?_eq_some_iff.1 h).1 (.inr (.inr ⟨_, t, _, h, h1, h2⟩))).trans h
theorem Box.cell {w : World} {q : Nat} {v : Value} {t : TypeId} (h : Box w q v t) : w.cell? ⟨q, 0, none⟩ = some v := by rw [cell_of_cells h]; rfl
theorem Box.lt {w : World} {q : Nat} {v : Value} {t : TypeId} (h : Box w q v t) : q < w.heap.size := (Array.getElem?_eq_some_iff.1 h).1
theorem Box.below {w w' : World} {q : Nat} {v : Value} {t : TypeId} (h : Box w q v t) (hb : Below w.heap.size w w') : Box w' q v t := (hb.block q h.lt).trans h
end Go.Proofs.YtnmcajinaigcjaaGreatDoor.C
namespace Go.Proofs.YtnmcajinaigcjaaGreatDoor.C
open Go.RowKit Go.Shelf
variable {X : Nat → Prop}

/-- it lies below base, or among ints -/
def KeptI (w : World) (base : Nat) (b : Option Addr) : Prop := ∀ ad, b = some ad → ad.block < base ∨ ∃ cur m, w.heap[ad.block]? = some (.cells cur 3 m)
theorem TagI.kept {w : World} {base : Nat} {b : Option Addr} {zs : List Int} (h : TagI w b) : KeptI w base (eff b zs) := fun ad e => .inr (h ad (eff_some e))
theorem Kp.intsK {base : Nat} {w w' : World} (hk : Kp X base w w') (hb : base ≤ w.heap.size) {b : Option Addr} {zs : List Int} (hz : Ints w b zs) (ht : KeptI w base (eff b zs)) : Ints w' b zs ∧ KeptI w' base (eff b zs) := by
  have key : ∀ ad, eff b zs = some ad → w'.heap[ad.block]? = w.heap[ad.block]? := by
    intro ad e
    rcases ht ad e with h | ⟨cur, m, hc⟩
    · exact hk.block _ (by omega) (.inl h)
    · exact hk.block _ (Array.getElem?_eq_some_iff.1 hc).1 (.inr (.inr ⟨cur, _, m, hc, by decide, by decide⟩))
  refine ⟨hz.sameE hk.size key, fun ad e => ?_⟩
  · rcases ht ad e with h | ⟨cur, m, hc⟩
    · exact .inl h
    · exact .inr ⟨cur, m, (key ad e).trans hc⟩
theorem fput_post {w w1 w2 : World} {base p vars : Nat} {cs : List (List Int)} (h : Kp X base w w1) (h2 : FmPost X w1 base p vars cs w2) : FmPost X w base p vars cs w2 := FmPost.kp_trans h h2
theorem isLit_var {vars : Nat} (h1 : 1 ≤ vars) (h2 : vars ≤ 20000) : M.isLit (vars : Int) = true := by rw [M.isLit_iff]; omega
end Go.Proofs.YtnmcajinaigcjaaGreatDoor.C
namespace Go.Proofs.YtnmcajinaigcjaaGreatDoor.C
open Go.RowKit Go.Shelf
variable {X : Nat → Prop}

theorem box0 (w : World) (u v : Value) (t1 t2 : TypeId) : Box ((w.alloc (.cells #[u] t1)).alloc (.cells #[v] t2)) w.heap.size u t1 := by
  show ((w.heap.push _).push _)[w.heap.size]? = _
  simp only [Array.getElem?_push, Array.size_push]
  rw [if_neg (by omega), if_pos trivial]
theorem box1 (w : World) (u v : Value) (t1 t2 : TypeId) : Box ((w.alloc (.cells #[u] t1)).alloc (.cells #[v] t2)) (w.heap.size + 1) v t2 := by
  show ((w.heap.push _).push _)[w.heap.size + 1]? = _
  simp only [Array.getElem?_push, Array.size_push]
  rw [if_pos trivial]
theorem KeptI.below {w w' : World} {base : Nat} {b : Option Addr} (h : KeptI w base b) (hb : Below w.heap.size w w') : KeptI w' base b := fun ad e => by
  rcases h ad e with h | ⟨cur, m, hc⟩
  · exact .inl h
  · exact .inr ⟨cur, m, (hb.block _ (Array.getElem?_eq_some_iff.1 hc).1).trans hc⟩
theorem FmPost.of_below {w w1 w2 : World} {base p vars : Nat} {cs : List (List Int)} (h : Below w.heap.size w w1) (h2 : FmPost X w1 base p vars cs w2) : FmPost X w base p vars cs w2 := FmPost.kp_trans (Kp.of_below h) h2
end Go.Proofs.YtnmcajinaigcjaaGreatDoor.C
namespace Go.Proofs.YtnmcajinaigcjaaGreatDoor.C
open Go.RowKit Go.Shelf
variable {X : Nat → Prop}

set_option maxHeartbeats 1000000 in
set_option maxRecDepth 20000 in
theorem add_ok (base p vars : Nat) (cs : List (List Int)) (a : Option Addr) (c : Nat) (b : Option Addr) (d : Nat) (zs : List Int) (w : World) (hF : Fm X w base p vars cs a c) (hz : Ints w b zs) (hown : M.own vars zs = true) (hsm : cs.length + 1 ≤ 200000) :
    Calls Tryz.prog 100 #[.pointer (some ⟨p, 0, none⟩), .slice b zs.length d] w fun e w' => e = .returned .nilIface ∧ FmPost X w base p vars (M.addC cs zs) w' := by
  have HL := Lib.hid (M.own_isLit hF.vars hown)
  have hdl : decide ((200000 : Int) ≤ (cs.length : Int)) = false := by simp; omega
  have hsm6 : cs.length + 1 ≤ 1000000 := by omega
  have HS6 := Lib.hid hsm6
  clear hsm hsm6
  have hps := hF.lt
  have hbp := hF.le
  have hhas := has_any p vars b d zs w hF.cell0 hF.vars hz
  rw [hown] at hhas
  have HH := Lib.hid hhas
  clear hhas hown
  go_enter Tryz.func100, Tryz.ntmps100
  go_wp2_with (go_at_call 139; refine HH.out.mono ?_; rintro e w' ⟨rfl, rfl⟩)
  refine (norm_ok _ _ _ _ hz HL.out).mono ?_
  rintro e w1 ⟨a1, c1, rfl, h1, h2, h3, h4, h5⟩
  have H1 := Lib.hid h1
  have H2 := Lib.hid h2
  have H3 := Lib.hid h3
  have H4 := Lib.hid h4
  have H5 := Lib.hid h5
  clear h1 h2 h3 h4 h5
  have htt := tautology_any a1 c1 (M.norm zs) w1 H1.out H2.out H3.out
  rw [only_norm HL.out] at htt
  have HT := Lib.hid htt
  clear htt
  have hadd : M.addC cs zs = if M.adj (M.norm zs) then cs else cs ++ [M.norm zs] := rfl
  have HA := Lib.hid hadd
  clear hadd
  generalize hgen : M.norm zs = ys at *
  clear hgen
  cases hadj : M.adj ys
  · go_wp2_with fail
    refine HT.out.mono ?_
    rintro e w2 ⟨rfl, hb2⟩
    have HB := Lib.hid (H4.out.trans (hb2.mono H4.out.size))
    have hF2 := hF.below HB.out
    have hc1 := hF2.cell1
    have hps2 := hF2.lt
    have HF2 := Lib.hid hF2
    have HI := Lib.hid (H1.out.below hb2)
    have HTG := Lib.hid ((H5.out.x hF.xlt).below hb2)
    clear hF2 hb2 HT H4
    go_wp2_with (at_builtin; refine wpList_append_Clauses rfl (.tmp 33) (.tmp 35) rfl base _ _ _ cs rfl rfl (HF2.out.below (below_alloc (Below.refl _ _) _)).own (some ⟨w2.heap.size, 0, none⟩) 1 1 [ys] rfl rfl (ClsT.one (b := a1) (d := c1) (by simp) (HI.out.alloc _) (HTG.out.below (below_alloc (Below.refl _ _) _)) H2.out H3.out) (HF2.out.below (below_alloc (Below.refl _ _) _)).xlt HS6.out (by simp; omega) ?_; intro a3 c3 w3 hown3 hg3; obtain ⟨hk1, hk2, hk0⟩ := (HF2.out.below (below_alloc (Below.refl _ _) _)).grown hg3; have HO3 := Lib.hid hown3; have HG3 := Lib.hid hg3; clear hown3 hg3)
    go_ret
    refine ⟨rfl, ?_⟩
    rw [HA.out, hadj]
    obtain ⟨r1, r2⟩ := hF.stored (below_alloc HB.out _) HO3.out HG3.out HS6.out
    exact ⟨a3, c3, r1, r2.kp hF⟩
  · go_wp2_with (go_at_call 141; refine HT.out.mono ?_; rintro e w2 ⟨rfl, hb2⟩)
    go_ret
    refine ⟨rfl, ?_⟩
    rw [HA.out, hadj]
    have hB := H4.out.trans (hb2.mono H4.out.size)
    exact ⟨a, c, hF.below hB, Kp.of_below hB⟩
end Go.Proofs.YtnmcajinaigcjaaGreatDoor.C
namespace Go.Proofs.YtnmcajinaigcjaaGreatDoor.C
open Go.RowKit Go.Shelf
variable {X X' Z Z' : Nat → Prop}

/-- blocks that a formula and its clauses lie in -/
def FBlk (w : World) (k : Nat) : Prop := ∃ cur e m, w.heap[k]? = some (.cells cur e m) ∧ (e = 97 ∨ e = 98 ∨ e = 3)
theorem Fm.turn {w w' : World} {base p vars : Nat} {cs : List (List Int)} {a : Option Addr} {c : Nat} (h : Fm X w base p vars cs a c) (hs : w.heap.size ≤ w'.heap.size)
    (key : ∀ k, k < w.heap.size → ¬ X k → FBlk w k → w'.heap[k]? = w.heap[k]?) (hX : ∀ k, X' k → X k ∨ w.heap.size ≤ k) (hlt : XLt X' w') : Fm X' w' base p vars cs a c := by
  have hrow := h.own.row
  have hoff' : ∀ {b : Option Addr}, OffX X b → (∀ ad, b = some ad → ad.block < w.heap.size) → OffX X' b := fun {b} h1 h2 ad e hz => by
    rcases hX _ hz with h3 | h3
    · exact h1 ad e h3
    · have := h2 ad e; omega
  refine ⟨h.le, (key p h.lt h.xp ⟨_, _, _, h.blk, .inl rfl⟩).trans h.blk, ?_, h.vars, h.len, hlt, fun hx => ?_⟩
  · obtain ⟨hoff, vals, ho, hv⟩ := h.own
    refine ⟨hoff' hoff fun ad e => ?_, vals, ⟨ho.1, ?_⟩, fun i x hx => ?_⟩
    · obtain ⟨_, cur, hc⟩ := hrow ad e
      exact (Array.getElem?_eq_some_iff.1 hc).1
    · rcases ho.2 with h0 | ⟨g, cap, cur, e, hbg, hgg, r⟩
      · exact .inl h0
      · have hl := (Array.getElem?_eq_some_iff.1 hgg).1
        refine .inr ⟨g, cap, cur, e, hbg, (key g hl ?_ ⟨cur, _, _, hgg, .inr (.inl rfl)⟩).trans hgg, r⟩
        injection e with e1
        exact hoff ⟨g, 0, none⟩ e1
    · obtain ⟨a', c', h1, h2, h3, h4, h5⟩ := hv i x hx
      have hl : ∀ ad, a' = some ad → ad.block < w.heap.size := fun ad e => by
        obtain ⟨cur, m, hc⟩ := h3.tag ad e
        exact (Array.getElem?_eq_some_iff.1 hc).1
      have k1 : ∀ ad, a' = some ad → w'.heap[ad.block]? = w.heap[ad.block]? := fun ad e => key _ (hl ad e) (h3.off ad e) (by
        obtain ⟨cur, m, hc⟩ := h3.tag ad e
        exact ⟨cur, _, m, hc, .inr (.inr rfl)⟩)
      exact ⟨a', c', h1, h2.same hs k1, ⟨hoff' h3.off hl, h3.tag.same k1⟩, h4, h5⟩
  · rcases hX _ hx with h3 | h3
    · exact h.xp h3
    · have := h.lt; omega

/-! ### append inside a region -/
theorem wp_append_own_at {P : Program} (w : World) {o : Oper} {a : Act} {K : Act → World → Prop} {Q : Exit → Act → World → Prop} (s x : Operand) (t : TypeId)
    (ho : o.op = .call { callee := .builtin .append, args := #[s, x], argTypes := #[t, t] })
    (base : Nat) (e : TypeId) (i : TypeInfo) (z : Value) (size bytes : Nat) (ht : P.underlying t = some (.slice e)) (hi : P.info? e = some i) (hz : i.zero = some z)
    (hsize : i.size = size) (hby : i.bytes = bytes) (hzs : z.cells.size = size) (hsz : 0 < size)
    (v : Value) (n : Nat) (xs : List Value) (hs : a.eval s = v) (hown : w.ownsRow base e size v n xs)
    (ad : Addr) (m c : Nat) (news : List Value) (hx : a.eval x = .slice (some ad) m c) (hl : news.length = m * size) (hnews : ∀ j u, news[j]? = some u → w.cell? (ad.add j) = some u) (h1 : ∀ u ∈ news, u.oneCell' = true)
    (h63 : n + m ≤ maxLen) (hbytes : (n + m) * bytes ≤ 140737488355328) (hbase : base ≤ w.heap.size)
    (h : ∀ v' w', w'.ownsRow base e size v' (n + m) (xs ++ news) → w.grownBy w' v.ownBlock → (v'.ownBlock = v.ownBlock ∨ v'.ownBlock = some w.heap.size) → K (a.put o.dst v') w') : o.wp P a w K Q := by
  obtain ⟨v', w', hr, h2, h3, _, h5⟩ := run_append_own_at (P := P) w base t o.type e i z size bytes ht hi hz hsize hby hzs hsz v n xs hown ad m c news hl hnews h1 h63 hbytes hbase
  unfold Oper.wp execOp
  simp only [ho, resolve, invoke, builtin, Sem.run_bind, Sem.run_pure, Result.andThen_ok, List.map_toArray, List.map_cons, List.map_nil, hs, hx, hr]
  exact h v' w' h2 h3 h5
end Go.Proofs.YtnmcajinaigcjaaGreatDoor.C

/- Contracts of reduce: check, matching, flags, needs. -/
import Derived.Test.YtpminhafljlldaaDoorQFits
import Derived.Test.YtpminhafljlldaaDoorQBools
import Derived.Test.YtpminhafljlldaaDoorQBig
import Derived.Test.YtpminhafljlldaaDoorQRedSt
import Derived.Laws.BitsAllLaws
import Derived.IntWalk
namespace Go.Proofs.YtpminhafljlldaaDoor
open Go.RowKit
open Q (It Ver Tm Sp Rc Dm)

theorem hit_at {s : Sp} {l : List Rc} {ch : List Bool} {k : Nat} {r : Rc} {y : Bool} (hr : l[k]? = some r) (hy : ch[k]? = some y) : Q.hit s l ch k = (y && Q.mt s r) := by
  unfold Q.hit; rw [hr, hy, Option.map_some]; cases y <;> cases Q.mt s r <;> rfl
theorem setOf_no {f : Nat → Bool} {k : Nat} (h : f k = false) : Q.setOf f (k + 1) = Q.setOf f k := by rw [Q.setOf, h]; rfl
theorem setOf_yes {f : Nat → Bool} {k : Nat} (h : f k = true) : Q.setOf f (k + 1) = Q.setOf f k ||| 2 ^ k := by rw [Q.setOf, h]; rfl
theorem wrap_pow {k : Nat} (h : k < 64) : IntKind.u64.wrap ((2 : Int) ^ k) = ((2 ^ k : Nat) : Int) := by
  have h1 : (2 : Nat) ^ k < 18446744073709551616 := Q.pow_small (by omega)
  have e : ((2 : Int) ^ k) = ((2 ^ k : Nat) : Int) := by simp
  rw [e]
  simp only [IntKind.wrap, IntKind.bits, IntKind.signed]
  generalize (2 ^ k : Nat) = n at h1
  simp; omega
theorem or_bit {S k : Nat} (hS : S < 18446744073709551616) (h : k < 64) : bits .or .u64 (S : Int) (IntKind.u64.wrap ((2 : Int) ^ k)) = ((S ||| 2 ^ k : Nat) : Int) := by
  rw [wrap_pow h]; exact u64_or_nat _ _ hS (Q.pow_small (by omega))
theorem not_bit {S k : Nat} (hS : S < 18446744073709551616) (h : k < 64) : bits .andNot .u64 (S : Int) (IntKind.u64.wrap ((2 : Int) ^ k)) = ((Q.without S k : Nat) : Int) := by
  rw [wrap_pow h]; exact u64_andNot_nat _ _ hS (Q.pow_small (by omega))
set_option maxHeartbeats 2000000 in
set_option maxRecDepth 100000 in
theorem matching_any (s : Sp) (ra : Option Addr) (rc : Nat) (ad : Addr) (a b : Option Addr) (c e : Nat) (l : List Rc) (ch : List Bool) (w : World) (hs : SpAt w s ra rc) (hR : RIn w a b l ch) (hl : ch.length = l.length) (h60 : l.length ≤ 60) (hE : ErrR w ad) :
    Calls Tryd.prog 57 #[.slice a l.length c, .slice b ch.length e, .agg #[.string s.chan, .string s.name, .slice ra s.rows.length rc, .string s.build, .int .i64 s.num]] w fun e w' => e = .returned (.int .u64 (Q.mset s l ch : Nat)) ∧ Below w.heap.size w w' := by
  have HS := Lib.hid hs
  have HR := Lib.hid hR
  have HE := Lib.hid hE
  have HL := Lib.hid hl
  have hl3 := hR.bools.len
  clear hs hR hE hl
  go_enter Tryd.func57, Tryd.ntmps57
  go_wp2
  generalize hW : w.alloc _ = W
  have h0 : Below w.heap.size w W := by subst hW; exact b1 _ _
  have hbox : W.heap.size = w.heap.size + 1 ∧ W.cell? ⟨w.heap.size, 0, none⟩ = some (.string s.chan) ∧ W.cell? ⟨w.heap.size, 1, none⟩ = some (.string s.name) ∧ W.cell? ⟨w.heap.size, 2, none⟩ = some (.slice ra s.rows.length rc) ∧ W.cell? ⟨w.heap.size, 3, none⟩ = some (.string s.build) ∧ W.cell? ⟨w.heap.size, 4, none⟩ = some (.int .i64 s.num) := by
    subst hW; refine ⟨?_, ?_, ?_, ?_, ?_, ?_⟩ <;> simp
  have H0 := Lib.hid h0
  have HBX := Lib.hid hbox
  clear h0 hW hbox
  go_loopw [7, 8, 9, 12] (fun t _ _ i wr => ∃ k : Nat, k ≤ l.length ∧ i = .int .i64 k ∧ t = .int .u64 (Q.setOf (Q.hit s l ch) k : Nat) ∧ Below W.heap.size W wr) (fun _ _ _ i _ => l.length - (intOf i).toNat)
  case atStart => exact ⟨0, by omega, rfl, rfl, Below.refl _ _⟩
  case round =>
    obtain ⟨k, hk, rfl, rfl, hbr⟩ := hrel
    have HB := Lib.hid hbr
    clear hbr
    by_cases hlt : k < l.length
    · have hltc : k < ch.length := by have := HL.out; omega
      obtain ⟨r, hx⟩ : ∃ x, l[k]? = some x := ⟨l[k], by simp [hlt]⟩
      obtain ⟨y, hy⟩ : ∃ x, ch[k]? = some x := ⟨ch[k], by simp [hltc]⟩
      obtain ⟨bb, off, pa, la, pc, lc, da, dc, ca, cc, fa, fc, rfl, hbl, ⟨t0, t1, t2, t3, t4, t5, t6, t7, t8, t9, t10, t11, t12⟩, hat, _⟩ := (HR.out.recs.below stays_RRc (fin H0.out HB.out)).cellsRc hx
      obtain ⟨b2, o2, rfl, hbl2, hcb⟩ := (HR.out.bools.below (fin H0.out HB.out)).addr (by omega)
      have hcy := hcb k y hy
      have hz : w.heap.size < wr.heap.size := by have := HB.out.size; have := HBX.out.1; omega
      have s0 := (HB.out.cell (p := ⟨w.heap.size, 0, none⟩) (by have := HBX.out.1; simp; omega)).trans HBX.out.2.1
      have s1 := (HB.out.cell (p := ⟨w.heap.size, 1, none⟩) (by have := HBX.out.1; simp; omega)).trans HBX.out.2.2.1
      have s2 := (HB.out.cell (p := ⟨w.heap.size, 2, none⟩) (by have := HBX.out.1; simp; omega)).trans HBX.out.2.2.2.1
      have s3 := (HB.out.cell (p := ⟨w.heap.size, 3, none⟩) (by have := HBX.out.1; simp; omega)).trans HBX.out.2.2.2.2.1
      have s4 := (HB.out.cell (p := ⟨w.heap.size, 4, none⟩) (by have := HBX.out.1; simp; omega)).trans HBX.out.2.2.2.2.2
      have HH := Lib.hid (hit_at (s := s) hx hy)
      have HA := Lib.hid hat
      clear hx hy hcb hat
      cases y
      · go_wp2
        go_roundw
        case rel => exact ⟨k + 1, by omega, by go_num, (by rw [setOf_no HH.out]), HB.out.alloc HB.out.size _⟩
        case measure => simp [intOf]; omega
      · go_wp2_with fail
        (with_reducible refine (match_any s r ra pa la rc pc lc _ _ _ ad _ (HS.out.below (fin (fin H0.out HB.out) (b1 _ _))) (HA.out.below (b1 _ _)) (HE.out.below (fin (fin H0.out HB.out) (b1 _ _)))).mono ?_)
        rintro e w2 ⟨rfl, hb⟩
        have HB2 := Lib.hid (fin (HB.out.alloc HB.out.size _) hb)
        clear hb
        generalize hm : Q.mt s r = m
        rw [hm] at HH
        clear hm
        cases m
        · go_wp2
          go_roundw
          case rel => exact ⟨k + 1, by omega, by go_num, (by rw [setOf_no HH.out]), HB2.out⟩
          case measure => simp [intOf]; omega
        · go_wp2
          go_roundw
          case rel => exact ⟨k + 1, by omega, by go_num, (by rw [or_bit (Q.setOf_small _ (by omega)) (by omega), setOf_yes HH.out]), HB2.out⟩
          case measure => simp [intOf]; omega
    · go_wp2
      go_ret
      obtain rfl : k = l.length := by omega
      exact ⟨rfl, fin H0.out HB.out⟩
theorem and_one {S k : Nat} (hS : S < 18446744073709551616) : bits .and .u64 ((S : Int) / 2 ^ k) 1 = ((S.testBit k).toNat : Int) := by
  have e : ((S : Int) / 2 ^ k) = ((S / 2 ^ k : Nat) : Int) := by simp
  rw [e, show (1 : Int) = ((1 : Nat) : Int) from rfl, u64_and_nat _ _ (Nat.lt_of_le_of_lt (Nat.div_le_self _ _) hS) (by decide), nat_mask1, Q.shr_bit]
theorem bit_test {S k : Nat} (hS : S < 18446744073709551616) : (bits .and .u64 ((S : Int) / 2 ^ k) 1 == 1) = S.testBit k := by
  rw [and_one hS]; cases S.testBit k <;> rfl
theorem flags_set {S n k : Nat} (h : k < n) : (Q.flagsOf S k ++ List.replicate (n - k) false).set k (S.testBit k) = Q.flagsOf S (k + 1) ++ List.replicate (n - (k + 1)) false := by
  rw [show n - k = (n - (k + 1)) + 1 by omega, List.replicate_succ, List.set_append_right _ _ (by rw [Q.flags_len]; exact Nat.le_refl _), Q.flags_len, Nat.sub_self, List.set_cons_zero]
  unfold Q.flagsOf
  rw [List.range_succ, List.map_append]; simp
set_option maxHeartbeats 1000000 in
theorem flags_any (S n : Nat) (w : World) (hS : S < 18446744073709551616) (hn : n ≤ 60) :
    Calls Tryd.prog 56 #[.int .u64 S, .int .i64 n] w (NewBools w (Q.flagsOf S n)) := by
  go_enter Tryd.func56, Tryd.ntmps56
  go_wp2_with (at_make; refine wpList_make_Bools rfl (.tmp 7) (.tmp 7) rfl w.heap.size n rfl rfl (by omega) (Nat.le_refl _) ?_; intro w4 hown hb4 hlt4; have HO4 := Lib.hid hown; have HB4 := Lib.hid hb4; clear hown hb4)
  go_loopw [6, 11] (fun _ i wr => ∃ k : Nat, k ≤ n ∧ i = .int .i64 k ∧ OwnB wr w.heap.size (some ⟨w.heap.size, 0, none⟩) n (Q.flagsOf S k ++ List.replicate (n - k) false) ∧ Below w.heap.size w wr) (fun _ i _ => n - (intOf i).toNat)
  case atStart => exact ⟨0, by omega, rfl, HO4.out, HB4.out⟩
  case round =>
    obtain ⟨k, hk, rfl, hown, hbr⟩ := hrel
    have HO := Lib.hid hown
    have HB := Lib.hid hbr
    clear hown hbr
    by_cases hlt : k < n
    · have hfz := HO.out.frozen k
      have hcell := HO.out.cell (i := k) (z := false) (by rw [List.getElem?_append_right (by rw [Q.flags_len]; exact Nat.le_refl _), Q.flags_len, Nat.sub_self, List.getElem?_replicate, if_pos (by omega)])
      go_wp2
      go_roundw
      case rel => exact ⟨k + 1, by omega, by go_num, (by rw [bit_test hS, ← flags_set hlt]; exact HO.out.stored k _), HB.out.setCell (Nat.le_refl _) _⟩
      case measure => simp [intOf]; omega
    · go_wp2
      go_ret
      obtain rfl : k = n := by omega
      have h1 := HO.out
      rw [Nat.sub_self, List.replicate_zero, List.append_nil] at h1
      exact ⟨_, k, (by rw [Q.flags_len]; rfl), ⟨by rw [Q.flags_len]; exact Nat.le_refl _, fun e => by cases e⟩, h1.bools (by rw [Q.flags_len]; omega), HB.out⟩
/-- check: all is right -/
theorem check_ok (a b : Option Addr) (c e : Nat) (l : List Rc) (on : List Bool) (w : World) (hl : on.length = l.length) (h60 : l.length ≤ 60) :
    Calls Tryd.prog 53 #[.slice a l.length c, .slice b on.length e] w fun e w' => e = .returned .nilIface ∧ w = w' := by
  have d1 : decide ((60 : Int) < (l.length : Int)) = false := by simp; omega
  have n1 : ((on.length : Int) != (l.length : Int)) = false := by simp [hl]
  clear hl
  go_enter Tryd.func53, Tryd.ntmps53
  go_wp2
  go_ret
  exact ⟨rfl, rfl⟩
theorem Tryd.infoU64 : (Tryd.prog.info? 92).map (fun i => (i.zero, i.size, i.bytes)) = some (some (.int .u64 0), 1, 8) := by kernel_rfl
theorem Tryd.infoU64s : (Tryd.prog.info? 93).map (fun i => (i.zero, i.size, i.bytes)) = some (some (.slice none 0 0), 1, 24) := by kernel_rfl
/-- a row of sets -/
structure Us (w : World) (a : Option Addr) (xs : List Nat) : Prop where
  addr : 0 < xs.length → ∃ b off, a = some ⟨b, off, none⟩ ∧ b < w.heap.size ∧ ∀ (i : Nat) x, xs[i]? = some x → w.cell? ⟨b, off + i, none⟩ = some (.int .u64 (x : Nat))
  len : xs.length ≤ 5864062014805
theorem Us.below {w w' : World} {a : Option Addr} {xs : List Nat} (h : Us w a xs) (hb : Below w.heap.size w w') : Us w' a xs := by
  refine ⟨fun h0 => ?_, h.len⟩
  obtain ⟨b, off, rfl, hlt, hc⟩ := h.addr h0
  exact ⟨b, off, rfl, Nat.lt_of_lt_of_le hlt hb.size, fun i z hz => (hb.cell (p := ⟨b, off + i, none⟩) hlt).trans (hc i z hz)⟩
/-- rows of sets -/
structure UUs (w : World) (a : Option Addr) (xs : List (List Nat)) : Prop where
  addr : 0 < xs.length → ∃ b off, a = some ⟨b, off, none⟩ ∧ b < w.heap.size ∧ ∀ (i : Nat) x, xs[i]? = some x → ∃ a' c', w.cell? ⟨b, off + i, none⟩ = some (.slice a' x.length c') ∧ Us w a' x
  len : xs.length ≤ 60
theorem UUs.below {w w' : World} {a : Option Addr} {xs : List (List Nat)} (h : UUs w a xs) (hb : Below w.heap.size w w') : UUs w' a xs := by
  refine ⟨fun h0 => ?_, h.len⟩
  obtain ⟨b, off, rfl, hlt, hc⟩ := h.addr h0
  refine ⟨b, off, rfl, Nat.lt_of_lt_of_le hlt hb.size, fun i z hz => ?_⟩
  obtain ⟨a', c', h1, h2⟩ := hc i z hz
  exact ⟨a', c', (hb.cell (p := ⟨b, off + i, none⟩) hlt).trans h1, h2.below hb⟩
end Go.Proofs.YtpminhafljlldaaDoor

/- The law OrderRings, walked. -/
import Derived.Test.YtnmcajinaigcjaaGreatDoorOROf
import Derived.Test.YtnmcajinaigcjaaGreatDoorQBigAll
namespace Go.Proofs.YtnmcajinaigcjaaGreatDoor
open Go.RowKit
open Q (It Ver Tm Sp Rc Dm)

set_option maxHeartbeats 8000000 in
set_option maxRecDepth 100000 in
theorem ringsLaw (A : Nat → Addr) (a b : Option Addr) (c e : Nat) (l : List Rc) (ch : List Bool) (w : World) (hR : RIn w a b l ch) (hA : Errs w A) :
    Calls Tryz.prog 3 #[.slice a l.length c, .slice b ch.length e] w fun e w' => e = .returned (.bool true) ∧ Below w.heap.size w w' := by
  have HR := Lib.hid hR
  have HA := Lib.hid hA
  have HE := Lib.hid (show ErrR w (A 9) from (hA.at' 9 _ rfl).cell)
  clear hR hA
  go_enter Tryz.func3, Tryz.ntmps3
  go_wp2_with fail
  (with_reducible refine (alive23 (A 9) _ HE.out).mono ?_)
  rintro e1 w1 ⟨rfl, hb⟩
  have HB1 := Lib.hid hb
  clear hb
  go_wp2_with fail
  (with_reducible refine (bigAll_any a c l 62 _ (HR.out.below HB1.out).recs (by omega)).mono ?_)
  rintro e1 w2 ⟨b0, rfl, hq, hb⟩
  have HB2 := Lib.hid (fin HB1.out hb)
  clear hb
  cases b0
  case true =>
    go_wp2
    go_ret
    exact ⟨rfl, HB2.out⟩
  have h62 := hq rfl
  clear hq
  by_cases h1 : 100 < ch.length
  · have n2 : decide ((ch.length : Int) > 100) = true := decide_eq_true (by omega)
    have n3 : decide ((100 : Int) < (ch.length : Int)) = true := decide_eq_true (by omega)
    go_wp2
    go_ret
    exact ⟨rfl, HB2.out⟩
  have n2 : decide ((ch.length : Int) > 100) = false := decide_eq_false (by omega)
  have n3 : decide ((100 : Int) < (ch.length : Int)) = false := decide_eq_false (by omega)
  have n4 : decide (100 < ch.length) = false := decide_eq_false (by omega)
  by_cases h2 : 60 < l.length
  · have m1 : decide ((l.length : Int) > 60) = true := decide_eq_true (by omega)
    have m2 : decide ((60 : Int) < (l.length : Int)) = true := decide_eq_true (by omega)
    have m3 : decide (60 < l.length) = true := decide_eq_true (by omega)
    have HRB := Lib.hid (oRings_big (A 2) a b l.length ch.length c e w2 h2 ((HA.out.below HB2.out).at' 2 _ rfl).cell)
    go_wp2_with fail
    (with_reducible refine HRB.out.mono ?_)
    rintro e1 w3 ⟨rfl, hb⟩
    have HB3 := Lib.hid (fin HB2.out hb)
    clear hb
    go_wp2_with fail
    (with_reducible refine (oOf_bad (A 2) a b l.length ch.length c e w3 ?_).mono ?_)
    · exact oRings_big (A 2) a b l.length ch.length c e w3 h2 ((HA.out.below HB3.out).at' 2 _ rfl).cell
    rintro e1 w4 ⟨rfl, hb⟩
    have HB4 := Lib.hid (fin HB3.out hb)
    clear hb HRB
    go_wp2_with fail
    (with_reducible refine (num_err A 2 w4 (by omega) (HA.out.below HB4.out)).mono ?_)
    rintro e1 w5 ⟨rfl, hb⟩
    have HB5 := Lib.hid (fin HB4.out hb)
    clear hb
    go_wp2_with fail
    (with_reducible refine (num_err A 2 w5 (by omega) (HA.out.below HB5.out)).mono ?_)
    rintro e1 w6 ⟨rfl, hb⟩
    have HB6 := Lib.hid (fin HB5.out hb)
    clear hb
    by_cases h3 : ch.length = l.length
    · have m4 : ((ch.length : Int) == (l.length : Int)) = true := by rw [beq_iff_eq]; omega
      go_wp2
      go_ret
      exact ⟨ret_bool rfl, HB6.out⟩
    · have m4 : ((ch.length : Int) == (l.length : Int)) = false := by rw [beq_eq_false_iff_ne]; omega
      go_wp2_with fail
      (with_reducible refine (oneeds_nil a b l.length ch.length c e 0 w6 (.inr (.inr (h3)))).mono ?_)
      rintro e1 w7 ⟨rfl, hb⟩
      have HB7 := Lib.hid (fin HB6.out hb)
      clear hb
      go_wp2
      go_ret
      exact ⟨ret_bool rfl, HB7.out⟩
  have m1 : decide ((l.length : Int) > 60) = false := decide_eq_false (by omega)
  have m2 : decide ((60 : Int) < (l.length : Int)) = false := decide_eq_false (by omega)
  have m3 : decide (60 < l.length) = false := decide_eq_false (by omega)
  have h60 : l.length ≤ 60 := by omega
  by_cases h3 : ch.length = l.length
  case neg =>
    have m4 : ((ch.length : Int) == (l.length : Int)) = false := by rw [beq_eq_false_iff_ne]; omega
    have m5 : ((ch.length : Int) != (l.length : Int)) = true := by rw [bne_iff_ne]; omega
    have HRB := Lib.hid (oRings_len (A 9) a b l.length ch.length c e w2 h60 h3 ((HA.out.below HB2.out).at' 9 _ rfl).cell)
    go_wp2_with fail
    (with_reducible refine HRB.out.mono ?_)
    rintro e1 w3 ⟨rfl, hb⟩
    have HB3 := Lib.hid (fin HB2.out hb)
    clear hb
    go_wp2_with fail
    (with_reducible refine (oOf_bad (A 9) a b l.length ch.length c e w3 ?_).mono ?_)
    · exact oRings_len (A 9) a b l.length ch.length c e w3 h60 h3 ((HA.out.below HB3.out).at' 9 _ rfl).cell
    rintro e1 w4 ⟨rfl, hb⟩
    have HB4 := Lib.hid (fin HB3.out hb)
    clear hb HRB
    go_wp2_with fail
    (with_reducible refine (num_err A 9 w4 (by omega) (HA.out.below HB4.out)).mono ?_)
    rintro e1 w5 ⟨rfl, hb⟩
    have HB5 := Lib.hid (fin HB4.out hb)
    clear hb
    go_wp2_with fail
    (with_reducible refine (num_err A 9 w5 (by omega) (HA.out.below HB5.out)).mono ?_)
    rintro e1 w6 ⟨rfl, hb⟩
    have HB6 := Lib.hid (fin HB5.out hb)
    clear hb
    go_wp2_with fail
    (with_reducible refine (oneeds_nil a b l.length ch.length c e 0 w6 (.inr (.inr (h3)))).mono ?_)
    rintro e1 w7 ⟨rfl, hb⟩
    have HB7 := Lib.hid (fin HB6.out hb)
    clear hb
    go_wp2
    go_ret
    exact ⟨ret_bool rfl, HB7.out⟩
  have m5 : ((ch.length : Int) != (l.length : Int)) = false := by simp [h3]
  have HL := Lib.hid h3
  clear h3
  go_wp2_with fail
  (with_reducible refine (oRings_ok (A 9) a b c e l ch _ (HR.out.below HB2.out) HL.out h60 (HE.out.below HB2.out)).mono ?_)
  rintro e1 w3 ⟨la, lc, L, rfl, hL, hiv, hb⟩
  have HORD := Lib.hid hL
  have hll : L.length ≤ 60 := Nat.le_trans (Nat.le_trans (rows_le L fun r hr => by
    obtain ⟨q, hq⟩ := List.getElem?_of_mem hr
    exact (hL.1.nth hq).ne) hL.1.len) h60
  have HIV := Lib.hid hiv
  have HB3 := Lib.hid (fin HB2.out hb)
  clear hL hiv hb
  go_wp2_with fail
  (with_reducible refine (oOf_ok (A 9) a b c e l ch _ (HR.out.below HB3.out) HL.out h60 (HE.out.below HB3.out)).mono ?_)
  rintro e1 w4 ⟨oa, oc, L2, rfl, hL, hiv, hb⟩
  obtain rfl := hL.1.uniq (O.ord l) HORD.out.1 hL.2 HORD.out.2
  have HSO := Lib.hid hiv.row.2.2
  have HB34 := Lib.hid hb
  have HB4 := Lib.hid (fin HB3.out hb)
  obtain ⟨z, hz⟩ : ∃ z, L2.flatten.length = z := ⟨_, rfl⟩
  rw [hz]
  have HZ := Lib.hid hz
  clear hL hiv hb hz
  go_wp2_with fail
  (with_reducible refine (rrings_any a b c e l ch _ (HR.out.below HB4.out) HL.out h60).mono ?_)
  rintro e1 w5 ⟨ra, rc, L3, rfl, hL, hiv, hb⟩
  obtain rfl := hL.1.uniq (O.ord l) HORD.out.1 hL.2 HORD.out.2
  have HIV2 := Lib.hid hiv
  have HB45 := Lib.hid hb
  have HB5 := Lib.hid (fin HB4.out hb)
  obtain ⟨a0, c0, e0, _, hs1⟩ := (HIV.out.below (fin HB34.out hb)).read
  cases e0
  obtain ⟨a0, c0, e0, _, hs2⟩ := hiv.read
  cases e0
  have HS1 := Lib.hid hs1
  have HS2 := Lib.hid hs2
  have m6 : ((L3.length : Int) != (L3.length : Int)) = false := by simp
  clear hL hiv hb hs1 hs2
  go_wp2
  clear m6 m5 m1 m2 m3 n2 n3 n4
  go_loopw [98] (fun i wr => ∃ k : Nat, k ≤ L3.length ∧ i = .int .i64 k ∧ Below w5.heap.size w5 wr) (fun i _ => L3.length - (intOf i).toNat)
  case atStart => exact ⟨0, Nat.zero_le _, rfl, Below.refl _ _⟩
  case round =>
    obtain ⟨k, hk, rfl, hbr⟩ := hrel
    rename World => w6
    have HB56 := Lib.hid hbr
    have HB6 := Lib.hid (fin HB5.out hbr)
    clear hbr
    by_cases hlt : k < L3.length
    · obtain ⟨r, hr⟩ : ∃ r, L3[k]? = some r := ⟨L3[k], by simp [hlt]⟩
      obtain ⟨p1, o1, a1, c1, rfl, hl1, hc1, hq1, hs1⟩ := Sl.cellNs (HS1.out.below (stays_RS stays_RN) HB56.out) hr
      obtain ⟨p2, o2, a2, c2, rfl, hl2, hc2, hq2, hs2⟩ := Sl.cellNs (HS2.out.below (stays_RS stays_RN) HB56.out) hr
      have HSM := Lib.hid (sameN_at a1 a2 r.length r.length c1 c2 r w6.drew rfl rfl (hs1.below stays_RN ((Below.refl _ _).drew)) (hs2.below stays_RN ((Below.refl _ _).drew)))
      clear hr hs1 hs2 hq1 hq2
      go_wp2_with fail
      go_region_law
        (go_simp; go_at_call 12; (with_reducible refine HSM.out.mono ?_); rintro e1 w7 ⟨rfl, hb7⟩; have HB67 := Lib.hid (((Below.refl _ _).drew).trans hb7); clear hb7)
      all_goals
        go_wp2
        go_roundw
        case rel => exact ⟨k + 1, by omega, by go_num, fin HB56.out HB67.out⟩
        case measure => simp [intOf]; omega
    · obtain rfl : k = L3.length := by omega
      clear HS1 HS2 HIV HIV2
      go_wp2
      go_loopw [114] (fun i wr => ∃ k : Nat, k ≤ l.length ∧ i = .int .i64 k ∧ Below w6.heap.size w6 wr) (fun i _ => l.length - (intOf i).toNat)
      case atStart => exact ⟨0, Nat.zero_le _, rfl, Below.refl _ _⟩
      case round =>
        obtain ⟨k, hk, rfl, hbr⟩ := hrel
        rename World => w7
        have HB67 := Lib.hid hbr
        have HB7 := Lib.hid (fin HB6.out hbr)
        clear hbr
        by_cases hlt : k < l.length
        · go_wp2_with fail
          (with_reducible refine (oneeds_any (A 9) a b c e l ch k _ (HR.out.below HB7.out) HL.out hlt (by omega) (HE.out.below HB7.out)).mono ?_)
          rintro e1 w8 ⟨a1, c1, rfl, hiv, hb8⟩
          have HS1 := Lib.hid hiv.row.2.2
          have HB8 := Lib.hid (fin HB7.out hb8)
          have HB68 := Lib.hid (fin HB67.out hb8)
          clear hiv hb8
          obtain ⟨z1, hz1⟩ : ∃ z, (O.needs l ch k).length = z := ⟨_, rfl⟩
          rw [hz1]
          have HZ1 := Lib.hid hz1
          clear hz1
          go_wp2_with fail
          (with_reducible refine (rneeds_any a b c e l ch k _ (HR.out.below HB8.out) HL.out hlt (by omega)).mono ?_)
          rintro e1 w9 ⟨a2, c2, rfl, hiv, hb9⟩
          have HS2 := Lib.hid hiv.row.2.2
          have HS3 := Lib.hid (HS1.out.below stays_RN hb9)
          have HB9 := Lib.hid (fin HB68.out hb9)
          clear hiv hb9
          obtain ⟨z2, hz2⟩ : ∃ z, (O.needs l ch k).length = z := ⟨_, rfl⟩
          rw [hz2]
          have HZ2 := Lib.hid hz2
          clear hz2
          go_wp2_with fail
          (with_reducible refine (sameN_at a1 a2 z1 z2 c1 c2 (O.needs l ch k) _ HZ1.out HZ2.out HS3.out HS2.out).mono ?_)
          rintro e1 wA ⟨rfl, hbA⟩
          have HBA := Lib.hid (fin HB9.out hbA)
          clear hbA
          go_wp2
          go_roundw
          case rel => exact ⟨k + 1, by omega, by go_num, HBA.out⟩
          case measure => simp [intOf]; omega
        · obtain rfl : k = l.length := by omega
          go_wp2_with fail
          (with_reducible refine (rof_any a b c e l ch _ (HR.out.below HB7.out) HL.out h60).mono ?_)
          rintro e1 w8 ⟨a1, c1, L4, rfl, hL, hs, hb8⟩
          obtain rfl := hL.1.uniq (O.ord l) HORD.out.1 hL.2 HORD.out.2
          have HS1 := Lib.hid hs
          have HS0 := Lib.hid (HSO.out.below stays_RN (fin (fin (fin HB45.out HB56.out) HB67.out) hb8))
          have HB8 := Lib.hid (fin HB7.out hb8)
          clear hL hs hb8
          obtain ⟨z2, hz2⟩ : ∃ z, tot L4 = z := ⟨_, rfl⟩
          rw [hz2]
          have HZ2 := Lib.hid (show L4.flatten.length = z2 from hz2)
          clear hz2
          go_wp2_with fail
          (with_reducible refine (sameN_at oa a1 z z2 oc c1 L4.flatten _ HZ.out HZ2.out HS0.out HS1.out).mono ?_)
          rintro e1 w9 ⟨rfl, hb9⟩
          have HB9 := Lib.hid (fin HB8.out hb9)
          clear hb9
          go_wp2_with fail
          (with_reducible refine (oneeds_nil a b l.length ch.length c e (-1) _ (.inl (by omega))).mono ?_)
          rintro e1 wA ⟨rfl, hbA⟩
          have HBA := Lib.hid (fin HB9.out hbA)
          clear hbA
          go_wp2_with fail
          (with_reducible refine (oneeds_nil a b l.length ch.length c e (l.length : Int) _ (.inr (.inl (Int.le_refl _)))).mono ?_)
          rintro e1 wB ⟨rfl, hbB⟩
          have HBB := Lib.hid (fin HBA.out hbB)
          clear hbB
          go_wp2
          go_ret
          exact ⟨ret_bool rfl, HBB.out⟩
end Go.Proofs.YtnmcajinaigcjaaGreatDoor

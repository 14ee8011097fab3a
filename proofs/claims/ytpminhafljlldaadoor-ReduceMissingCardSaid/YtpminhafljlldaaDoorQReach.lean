/- The contracts of reduce.Reach and reduce.Reduce. -/
import Derived.Test.YtpminhafljlldaaDoorQKeep
namespace Go.Proofs.YtpminhafljlldaaDoor
open Go.RowKit
open Q (It Ver Tm Sp Rc Dm)

theorem not_test {S D k : Nat} (hS : S < 18446744073709551616) (hD : D < 18446744073709551616) (hk : k < 64) : ∃ T : Nat, T < 18446744073709551616 ∧ bits .andNot .u64 (S : Int) (D : Int) = (T : Int) ∧ (bits .and .u64 ((T : Int) / 2 ^ k) 1 == 0) = !(S.testBit k && !D.testBit k) := by
  have hT : S &&& (18446744073709551615 - D) < 18446744073709551616 := Nat.lt_of_le_of_lt Nat.and_le_left hS
  refine ⟨S &&& (18446744073709551615 - D), hT, u64_andNot_nat _ _ hS hD, ?_⟩
  rw [and_one hT, Nat.testBit_and, show 18446744073709551615 - D = 2 ^ 64 - (D + 1) by omega, Nat.testBit_two_pow_sub_succ (by simpa using hD)]
  simp only [hk, decide_true, Bool.true_and]
  cases S.testBit k <;> cases D.testBit k <;> rfl
/-- how many are not done yet -/
def reachMu (n : Nat) (a' : Act) (_ : World) : Nat := match a'.tmps.getD 11 undef with | .int _ z => n - Q.bits z.toNat n | _ => 0
theorem reachMu_lt {n k D : Nat} {b b' : Act} {w w' : World} (hk : k < n) (h : D.testBit k = false) (e : b.tmps.getD 11 undef = .int .u64 (D : Nat)) (e' : b'.tmps.getD 11 undef = .int .u64 ((D ||| 2 ^ k : Nat) : Int)) : reachMu n b' w' < reachMu n b w := by
  unfold reachMu
  rw [e, e']
  have h1 := Q.reach_more hk h
  have h2 := Q.bits_le (D ||| 2 ^ k) n
  simp only [Int.toNat_natCast]
  omega
set_option maxHeartbeats 8000000 in
set_option maxRecDepth 100000 in
theorem reach_ok (ad : Addr) (a b ro : Option Addr) (c e rc : Nat) (l : List Rc) (on : List Bool) (roots : List Sp) (w : World) (hR : RIn w a b l on) (hRo : Sl RSp 5 w ro roots) (hl : on.length = l.length) (h60 : l.length ≤ 60) (hE : ErrR w ad) :
    Calls Tryd.prog 24 #[.slice a l.length c, .slice b on.length e, .slice ro roots.length rc] w fun e w' => ∃ (k : List Bool) (ka : Option Addr) (kc : Nat), e = .returned (.tuple #[.slice ka k.length kc, .nilIface]) ∧ R.Reached Rc.deps Q.mt l on roots k ∧ Bools w' ka k ∧ Below w.heap.size w w' := by
  have HR := Lib.hid hR
  have HO := Lib.hid hRo
  have HE := Lib.hid hE
  have HL := Lib.hid hl
  have hl3 := hR.bools.len
  have hl4 := hRo.len
  clear hR hE hl hRo
  go_enter Tryd.func24, Tryd.ntmps24
  go_wp2_with fail
  refine wp_scope_jumps 0 (fun a' w' => ∃ (aa : Option Addr) (ac S D : Nat) (u12 u13 u14 u15 u16 u17 u18 u19 u20 u21 u22 u23 u24 u25 u26 u27 u28 u29 u30 u31 u32 u33 u34 u35 u36 u37 u38 u39 u40 u41 u42 u43 u44 u45 u46 u47 u48 u49 u50 u51 u52 u53 u54 u55 u56 u57 u58 u59 u60 u61 u62 u63 u64 u65 u66 u67 u68 u69 u70 u71 u72 : Value), UUs w' aa (Q.nds l on) ∧ Below w.heap.size w w' ∧ Q.RInv l on roots S D ∧ a' = { tmps := #[.slice a l.length c, .slice b on.length e, .slice ro roots.length rc, undef, undef, undef, .slice none 0 0, .nilIface, .nilIface, .slice aa l.length ac, .int .u64 (S : Nat), .int .u64 (D : Nat), u12, u13, u14, u15, u16, u17, u18, u19, u20, u21, u22, u23, u24, u25, u26, u27, u28, u29, u30, u31, u32, u33, u34, u35, u36, u37, u38, u39, u40, u41, u42, u43, u44, u45, u46, u47, u48, u49, u50, u51, u52, u53, u54, u55, u56, u57, u58, u59, u60, u61, u62, u63, u64, u65, u66, u67, u68, u69, u70, u71, u72], defers := [] }) (reachMu l.length) rfl ?_ ?_
  · go_wp2_with fail
    (with_reducible refine (check_ok a b c e l on _ HL.out h60).mono ?_)
    rintro e w9 ⟨rfl, rfl⟩
    go_wp2_with fail
    (with_reducible refine (needs_any ad a b c _ l on _ HR.out HL.out h60 HE.out).mono ?_)
    rintro e w1 ⟨aa, ac, rfl, hU, hb1⟩
    rw [Q.nds_len]
    have HU0 := Lib.hid hU
    have HB1 := Lib.hid hb1
    clear hU hb1
    go_wp2
    go_loopw [10, 13, 28] (fun s _ i wr => ∃ k : Nat, k ≤ roots.length ∧ i = .int .i64 k ∧ s = .int .u64 (Q.rootsSet l on (roots.take k) : Nat) ∧ Below w1.heap.size w1 wr) (fun _ _ i _ => roots.length - (intOf i).toNat)
    case atStart => exact ⟨0, by omega, rfl, rfl, Below.refl _ _⟩
    case round =>
      obtain ⟨k, hk, rfl, rfl, hbr⟩ := hrel
      have HBr := Lib.hid hbr
      have hrs : Q.rootsSet l on (roots.take k) < 18446744073709551616 := Q.foldor_small (by omega) _ 0 (by decide)
      clear hbr
      by_cases hlt : k < roots.length
      · obtain ⟨s, hx⟩ : ∃ x, roots[k]? = some x := ⟨roots[k], by simp [hlt]⟩
        obtain ⟨bb, off, ra, rd, rfl, hbl, ⟨t0, t1, t2, t3, t4⟩, hat⟩ := (HO.out.below stays_RSp (fin HB1.out HBr.out)).cellsSp hx
        have HX := Lib.hid hx
        have HA := Lib.hid hat
        clear hx hat
        have hor := u64_or_nat _ _ hrs (Q.mset_small (s := s) (l := l) (on := on) (by omega))
        go_wp2_with fail
        (with_reducible refine (matching_any s ra rd ad a b c _ l on _ (HA.out.below (b1 _ _)) ((HR.out.below (fin HB1.out HBr.out)).below (b1 _ _)) HL.out h60 ((HE.out.below (fin HB1.out HBr.out)).below (b1 _ _))).mono ?_)
        rintro e w3 ⟨rfl, hb⟩
        have HB3 := Lib.hid (fin (HBr.out.alloc HBr.out.size _) hb)
        clear hb
        go_wp2
        go_roundw
        case rel => exact ⟨k + 1, by omega, by go_num, by rw [Q.rootsSet_snoc HX.out], HB3.out⟩
        case measure => simp [intOf]; omega
      · have hfull : roots.take k = roots := List.take_of_length_le (by omega)
        rw [hfull]
        have hI : Q.RInv l on roots (Q.rootsSet l on roots) 0 := Q.reach_init
        generalize Q.rootsSet l on roots = S at hI
        obtain ⟨D, hDD⟩ : ∃ D : Nat, D = 0 := ⟨0, rfl⟩
        rw [← hDD] at hI
        obtain ⟨hSs, hDs⟩ := hI.small (by omega)
        have HI := Lib.hid hI
        have HU := Lib.hid (HU0.out.below HBr.out)
        have HB := Lib.hid (fin HB1.out HBr.out)
        obtain ⟨w2, rfl⟩ : ∃ wo : World, wo = wr := ⟨_, rfl⟩
        have hz0 : (Value.int .u64 0) = .int .u64 (D : Nat) := by rw [hDD]; rfl
        rw [hz0]
        clear hfull hI hz0 hDD HBr
        go_wp2
        go_step3
        go_wp2
        go_loop [10, 11, 14, 16, 41] (fun s d _ _ i => s = .int .u64 (S : Nat) ∧ d = .int .u64 (D : Nat) ∧ ∃ k : Nat, k ≤ l.length ∧ i = .int .i64 k ∧ ∀ j, j < k → S.testBit j = true → D.testBit j = true) (fun _ _ _ _ i => l.length - (intOf i).toNat)
        case atStart => exact ⟨rfl, rfl, 0, by omega, rfl, fun j hj => by omega⟩
        case round =>
          obtain ⟨rfl, rfl, k, hk, rfl, hall⟩ := hrel
          have HAL := Lib.hid hall
          clear hall
          by_cases hlt : k < l.length
          · obtain ⟨T, hTs, hT1, hT2⟩ := not_test (k := k) hSs hDs (by omega)
            by_cases hit : (S.testBit k && !D.testBit k) = true
            · rw [hit] at hT2
              obtain ⟨hS, hD⟩ : S.testBit k = true ∧ D.testBit k = false := by simpa using hit
              have hx0 := Q.nds_at (on := on) hlt
              have hsm := nds_small h60 hx0
              obtain ⟨b3, off3, rfl, hbl3, hc3⟩ := HU.out.addr (by rw [Q.nds_len]; omega)
              obtain ⟨a4, c4, hc4, hU4⟩ := hc3 k _ hx0
              generalize hxs : Q.ndAt l on k = xs at hU4 hc4 hsm
              have HXS := Lib.hid hxs
              have HU4 := Lib.hid hU4
              have HSM := Lib.hid hsm
              have hxl := hU4.len
              clear hc3 hx0 hU4 hxs hsm hit
              have hod := or_bit (k := k) hDs (by omega)
              go_wp2
              clear hT1 hT2 hod hc4
              go_loop [10, 16, 60] (fun s _ i => ∃ j : Nat, j ≤ xs.length ∧ i = .int .i64 j ∧ s = .int .u64 (Q.addNd (xs.take j) S : Nat)) (fun _ _ i => xs.length - (intOf i).toNat)
              case atStart => exact ⟨0, by omega, rfl, rfl⟩
              case round =>
                obtain ⟨j, hj, rfl, rfl⟩ := hrel
                have hXs : Q.addNd (xs.take j) S < 18446744073709551616 := Q.addNd_small (fun x hx => HSM.out x (List.mem_of_mem_take hx)) hSs
                by_cases hlt2 : j < xs.length
                · obtain ⟨x, hx⟩ : ∃ x, xs[j]? = some x := ⟨xs[j], by simp [hlt2]⟩
                  obtain ⟨b5, o5, rfl, hbl5, hcx⟩ := HU4.out.addr (by omega)
                  have c5 := hcx j x hx
                  have hor := u64_or_nat _ x hXs (HSM.out x (List.mem_of_getElem? hx))
                  have HX := Lib.hid hx
                  clear hcx hx
                  go_wp2
                  go_round
                  case rel => exact ⟨j + 1, by omega, by go_num, by rw [Q.addNd_snoc HX.out]⟩
                  case measure => simp [intOf]; omega
                · have hfull : xs.take j = Q.ndAt l on k := by rw [HXS.out]; exact List.take_of_length_le (by omega)
                  rw [hfull]
                  clear hfull
                  go_wp2
                  go_step3
                  exact ⟨rfl, _, ac, Q.addNd (Q.ndAt l on k) S, D ||| 2 ^ k, _, _, _, _, _, _, _, _, _, _, _, _, _, _, _, _, _, _, _, _, _, _, _, _, _, _, _, _, _, _, _, _, _, _, _, _, _, _, _, _, _, _, _, _, _, _, _, _, _, _, _, _, _, _, _, _, _, _, _, _, _, HU.out, HB.out, Q.reach_step HI.out hS, rfl⟩
            · have hit' : (S.testBit k && !D.testBit k) = false := by simpa using hit
              rw [hit'] at hT2
              have HIT := Lib.hid hit'
              clear hit hit'
              go_wp2
              go_round
              case rel =>
                refine ⟨rfl, rfl, k + 1, by omega, by go_num, fun j hj hb => ?_⟩
                rcases Nat.lt_or_ge j k with h' | h'
                · exact HAL.out j h' hb
                · have e : j = k := by omega
                  subst e
                  have := HIT.out
                  rw [hb] at this
                  simpa using this
              case measure => simp [intOf]; omega
          · go_wp2_with fail
            (with_reducible refine (flags_any S l.length _ hSs h60).mono ?_)
            rintro e w9 ⟨ka, kc, rfl, _, hB9, hb9⟩
            have HB9 := Lib.hid hB9
            have HBB := Lib.hid (fin HB.out hb9)
            have HKE := Lib.hid (Q.reach_end HI.out (fun i hi hb => HAL.out i (by omega) hb))
            clear hB9 hb9
            rw [Q.flags_len]
            go_wp2
            simp only [Exit.jump]
            go_ret2
            exact ⟨_, ka, kc, by rw [Q.flags_len]; rfl, HKE.out, HB9.out, HBB.out⟩
  · rintro a' w' ⟨aa, ac, S, D, u12, u13, u14, u15, u16, u17, u18, u19, u20, u21, u22, u23, u24, u25, u26, u27, u28, u29, u30, u31, u32, u33, u34, u35, u36, u37, u38, u39, u40, u41, u42, u43, u44, u45, u46, u47, u48, u49, u50, u51, u52, u53, u54, u55, u56, u57, u58, u59, u60, u61, u62, u63, u64, u65, u66, u67, u68, u69, u70, u71, u72, hU, hb, hI, rfl⟩
    obtain ⟨hSs, hDs⟩ := hI.small (by omega)
    have HI := Lib.hid hI
    have HU := Lib.hid hU
    have HB := Lib.hid hb
    clear hU hI hb
    go_wp2
    go_loop [10, 11, 14, 16, 41] (fun s d _ _ i => s = .int .u64 (S : Nat) ∧ d = .int .u64 (D : Nat) ∧ ∃ k : Nat, k ≤ l.length ∧ i = .int .i64 k ∧ ∀ j, j < k → S.testBit j = true → D.testBit j = true) (fun _ _ _ _ i => l.length - (intOf i).toNat)
    case atStart => exact ⟨rfl, rfl, 0, by omega, rfl, fun j hj => by omega⟩
    case round =>
      obtain ⟨rfl, rfl, k, hk, rfl, hall⟩ := hrel
      have HAL := Lib.hid hall
      clear hall
      by_cases hlt : k < l.length
      · obtain ⟨T, hTs, hT1, hT2⟩ := not_test (k := k) hSs hDs (by omega)
        by_cases hit : (S.testBit k && !D.testBit k) = true
        · rw [hit] at hT2
          obtain ⟨hS, hD⟩ : S.testBit k = true ∧ D.testBit k = false := by simpa using hit
          have hx0 := Q.nds_at (on := on) hlt
          have hsm := nds_small h60 hx0
          obtain ⟨b3, off3, rfl, hbl3, hc3⟩ := HU.out.addr (by rw [Q.nds_len]; omega)
          obtain ⟨a4, c4, hc4, hU4⟩ := hc3 k _ hx0
          generalize hxs : Q.ndAt l on k = xs at hU4 hc4 hsm
          have HXS := Lib.hid hxs
          have HU4 := Lib.hid hU4
          have HSM := Lib.hid hsm
          have hxl := hU4.len
          clear hc3 hx0 hU4 hxs hsm hit
          have hod := or_bit (k := k) hDs (by omega)
          go_wp2
          clear hT1 hT2 hod hc4
          go_loop [10, 16, 60] (fun s _ i => ∃ j : Nat, j ≤ xs.length ∧ i = .int .i64 j ∧ s = .int .u64 (Q.addNd (xs.take j) S : Nat)) (fun _ _ i => xs.length - (intOf i).toNat)
          case atStart => exact ⟨0, by omega, rfl, rfl⟩
          case round =>
            obtain ⟨j, hj, rfl, rfl⟩ := hrel
            have hXs : Q.addNd (xs.take j) S < 18446744073709551616 := Q.addNd_small (fun x hx => HSM.out x (List.mem_of_mem_take hx)) hSs
            by_cases hlt2 : j < xs.length
            · obtain ⟨x, hx⟩ : ∃ x, xs[j]? = some x := ⟨xs[j], by simp [hlt2]⟩
              obtain ⟨b5, o5, rfl, hbl5, hcx⟩ := HU4.out.addr (by omega)
              have c5 := hcx j x hx
              have hor := u64_or_nat _ x hXs (HSM.out x (List.mem_of_getElem? hx))
              have HX := Lib.hid hx
              clear hcx hx
              go_wp2
              go_round
              case rel => exact ⟨j + 1, by omega, by go_num, by rw [Q.addNd_snoc HX.out]⟩
              case measure => simp [intOf]; omega
            · have hfull : xs.take j = Q.ndAt l on k := by rw [HXS.out]; exact List.take_of_length_le (by omega)
              rw [hfull]
              clear hfull
              go_wp2
              go_step3
              exact ⟨rfl, ⟨_, ac, Q.addNd (Q.ndAt l on k) S, D ||| 2 ^ k, _, _, _, _, _, _, _, _, _, _, _, _, _, _, _, _, _, _, _, _, _, _, _, _, _, _, _, _, _, _, _, _, _, _, _, _, _, _, _, _, _, _, _, _, _, _, _, _, _, _, _, _, _, _, _, _, _, _, _, _, _, HU.out, HB.out, Q.reach_step HI.out hS, rfl⟩, reachMu_lt hlt hD rfl rfl⟩
        · have hit' : (S.testBit k && !D.testBit k) = false := by simpa using hit
          rw [hit'] at hT2
          have HIT := Lib.hid hit'
          clear hit hit'
          go_wp2
          go_round
          case rel =>
            refine ⟨rfl, rfl, k + 1, by omega, by go_num, fun j hj hb => ?_⟩
            rcases Nat.lt_or_ge j k with h' | h'
            · exact HAL.out j h' hb
            · have e : j = k := by omega
              subst e
              have := HIT.out
              rw [hb] at this
              simpa using this
          case measure => simp [intOf]; omega
      · go_wp2_with fail
        (with_reducible refine (flags_any S l.length _ hSs h60).mono ?_)
        rintro e w9 ⟨ka, kc, rfl, _, hB9, hb9⟩
        have HB9 := Lib.hid hB9
        have HBB := Lib.hid (fin HB.out hb9)
        have HKE := Lib.hid (Q.reach_end HI.out (fun i hi hb => HAL.out i (by omega) hb))
        clear hB9 hb9
        rw [Q.flags_len]
        go_wp2
        simp only [Exit.jump]
        go_ret2
        exact ⟨_, ka, kc, by rw [Q.flags_len]; rfl, HKE.out, HB9.out, HBB.out⟩
end Go.Proofs.YtpminhafljlldaaDoor

/- The walk of haversacklaw16.SumsLimits. -/
import Derived.Test.YtllkeojkejbbeaaDoorSAtMost
import Derived.Test.YtllkeojkejbbeaaDoorSRef
import Derived.Test.YtllkeojkejbbeaaDoorSDigLaw
import Derived.Test.YtllkeojkejbbeaaDoorNum
namespace Go.Proofs.YtllkeojkejbbeaaDoor
open Go.RowKit Go.Shelf

theorem mod_five (x : Int) : ∃ V : Nat, wrap64 ((IntKind.u64.wrap x).tmod 5) = (V : Int) ∧ V < 5 := by
  have h0 : 0 ≤ IntKind.u64.wrap x := by rw [IntKind.wrap_u64]; omega
  rw [Int.tmod_eq_emod_of_nonneg h0]
  have h1 := Int.emod_nonneg (IntKind.u64.wrap x) (show (5 : Int) ≠ 0 by omega)
  have h2 := Int.emod_lt_of_pos (IntKind.u64.wrap x) (show (0 : Int) < 5 by omega)
  generalize IntKind.u64.wrap x % 5 = r at *
  rw [IntWalk.wrap64_in r ⟨by omega, by omega⟩]
  exact ⟨r.toNat, by omega, by omega⟩
theorem many_fit {X : Nat → Prop} (base p n : Nat) (a : Option Addr) (c : Nat) (w : World) (hF : Fm X w base p 0 [] a c) (hn : n < 5) (hb : base ≤ w.heap.size) :
    Calls Tryd.prog 21 #[.pointer (some ⟨p, 0, none⟩), .int .i64 n] w fun e w' => ∃ s, e = .returned (.tuple #[s, .nilIface]) ∧ Fm X w' base p n [] a c ∧ AllBut p w w' := by
  by_cases h1 : 1 ≤ n
  · exact (many_ok base p 0 n [] a c w hF h1 (by omega) hb).mono fun e w' h => ⟨_, h.1, by have := h.2.1; rwa [Nat.zero_add] at this, h.2.2.2⟩
  · obtain rfl : n = 0 := by omega
    exact (many_zero p 0 w (by omega)).mono fun e w' h => ⟨_, h.1, by rw [← h.2]; exact hF, by rw [← h.2]; exact AllBut.of_below (Below.refl _ _)⟩
theorem M.own_one (V : Nat) (z : Int) : M.own V [z] = (!(z == 0) && !(decide (z < -(V : Int))) && !(decide ((V : Int) < z))) := by
  rw [Bool.eq_iff_iff, M.own_iff]
  simp
  omega
theorem Ints.effB {w : World} {b : Option Addr} {zs : List Int} (hz : Ints w b zs) : ∀ ad, eff b zs = some ad → ad.block < w.heap.size := fun ad e => by
  have h0 : 0 < zs.length := by
    rcases Nat.eq_zero_or_pos zs.length with h' | h'
    · rw [List.eq_nil_of_length_eq_zero h'] at e; cases e
    · exact h'
  rw [eff_pos h0] at e
  obtain ⟨b', off, e2, hlt, _⟩ := hz.addr h0
  rw [e2] at e; cases e; exact hlt
set_option maxHeartbeats 4000000 in
set_option maxRecDepth 100000 in
theorem limitsLaw (hal : Alive16) (x : Int) (a : Option Addr) (c : Nat) (ts : List M.Wt) (b : Option Addr) (d : Nat) (zs : List Int) (A : Nat → Addr) (w : World) (hx : I64 x) (hz : Wts w a ts) (hy : Ints w b zs) (hE : Errs w A) :
    Calls Tryd.prog 9 #[.int .i64 x, .slice a ts.length c, .slice b zs.length d] w fun e w' => e = .returned (.bool true) ∧ Below w.heap.size w w' := by
  have hlen := hz.len
  have hlen2 := hy.len
  have hx1 := hx.lo
  have hx2 := hx.hi
  have HAL := Lib.hid (hal w)
  have HZ := Lib.hid hz
  have HY := Lib.hid hy
  have HE := Lib.hid hE
  clear hal hz hy hE hx
  go_enter Tryd.func9, Tryd.ntmps9
  go_wp2_with fail
  refine HAL.out.mono ?_
  rintro e W0 ⟨rfl, hb0⟩
  have HB0 := Lib.hid hb0
  clear hb0 HAL
  obtain ⟨V, hV, hV5⟩ := mod_five x
  have HV := Lib.hid hV
  clear hV
  by_cases hl : ts.length ≤ 10
  · by_cases hl2 : zs.length ≤ 80
    · go_wp2_with fail
      rw [HV.out]
      clear HV hx1 hx2
      refine (new_any _).mono ?_
      rintro e W1 ⟨rfl, hW1⟩
      have hF1 : Fm NoX W1 w.heap.size W0.heap.size 0 [] none 0 := by rw [← hW1]; exact Fm.new W0 _ HB0.out.size (NoX.lt _)
      have hb1 : Below w.heap.size w W1 := by rw [← hW1]; exact HB0.out.alloc HB0.out.size _
      have HB1 := Lib.hid hb1
      have HM := Lib.hid (many_fit w.heap.size W0.heap.size V none 0 W1 hF1 hV5 hb1.size)
      clear hW1 hF1 hb1
      go_wp2_with fail
      refine HM.out.mono ?_
      rintro e W2 ⟨s2, rfl, hF2, hA2⟩
      have hge : w.heap.size ≤ W0.heap.size := HB0.out.size
      have hb2 : Below w.heap.size w W2 := HB1.out.trans ⟨hA2.os, hA2.tape, hA2.output, hA2.size, fun k hk => hA2.block k (by have := HB1.out.size; omega) (by omega)⟩
      have HFW : Hid (∀ wx, Below W2.heap.size W2 wx → Fm NoX wx w.heap.size W0.heap.size V [] none 0) := Lib.hid fun wx hb => hF2.below hb
      have HBW : Hid (∀ wx, Below W2.heap.size W2 wx → Below w.heap.size w wx) := Lib.hid fun wx hb => hb2.trans (hb.mono hb2.size)
      clear hF2 hA2 hb2 HM HB1 HB0
      obtain ⟨E, hEv⟩ : ∃ E : Int, E = if ts.all M.wOk = true then 0 else 10 := ⟨_, rfl⟩
      have hrb : Calls Tryd.prog 39 #[.slice a ts.length c] W2 fun e w' => ∃ s n : Int, e = .returned (.tuple #[.int .i64 s, .int .i64 n, .int .i64 E]) ∧ Below W2.heap.size W2 w' := by
        subst hEv
        cases hok : ts.all M.wOk
        · exact (rbound_bad a c ts W2 (HZ.out.below (HBW.out W2 (Below.refl _ _))) hok (by omega)).mono fun e w' h => ⟨_, _, h.1, h.2⟩
        · exact (rbound_ok a c ts W2 (HZ.out.below (HBW.out W2 (Below.refl _ _))) hok (by omega)).mono fun e w' h => ⟨_, _, h.1, h.2⟩
      have HRB := Lib.hid hrb
      have HEV := Lib.hid hEv
      clear hrb hEv
      go_wp2_with fail
      refine HRB.out.mono ?_
      rintro e W3 ⟨s3, n3, rfl, hb3⟩
      have HB3 := Lib.hid hb3
      clear hb3 HRB
      have hneg : wrap64 (-(V : Int)) = -(V : Int) := IntWalk.wrap64_in _ ⟨by omega, by omega⟩
      have hneg2 : IntKind.i64.wrap (-(V : Int)) = -(V : Int) := by rw [IntKind.wrap_i64]; omega
      go_wp2
      go_loopw [13, 15, 54] (fun v _ i wr => ∃ (k : Nat) (u : Bool), k ≤ ts.length ∧ i = .int .i64 k ∧ v = .bool u ∧ u = !M.own V (M.lits (ts.take k)) ∧ Below W2.heap.size W2 wr) (fun _ _ i _ => ts.length - (intOf i).toNat)
      case atStart => exact ⟨0, false, Nat.zero_le _, rfl, rfl, rfl, HB3.out⟩
      case round =>
        obtain ⟨k, u, hk, rfl, rfl, hu, hbr⟩ := hrel
        have HBR := Lib.hid hbr
        have HU := Lib.hid hu
        clear hbr hu HB3
        by_cases hlt : k < ts.length
        · obtain ⟨b1, off, rfl, hbl, hc⟩ := (HZ.out.below (HBW.out _ HBR.out)).addr (by omega)
          obtain ⟨t, htk⟩ : ∃ t, ts[k]? = some t := ⟨ts[k], by simp [hlt]⟩
          obtain ⟨hc0, hc1⟩ := hc k t htk
          have hsn : M.own V (M.lits (ts.take (k + 1))) = (M.own V (M.lits (ts.take k)) && M.own V [t.1]) := by
            unfold M.lits M.own
            rw [List.take_add_one, htk]; simp
          rw [M.own_one] at hsn
          have HSN := Lib.hid hsn
          clear hc htk hsn
          cases u
          · have hu2 : M.own V (M.lits (ts.take k)) = true := by have := HU.out; simpa using this.symm
            rw [hu2] at HSN
            clear hu2 HU
            by_cases e0 : t.1 = 0
            · have hq : M.own V (M.lits (ts.take (k + 1))) = false := by rw [HSN.out]; simp [e0]
              have HQ := Lib.hid hq
              rw [e0] at hc0
              clear hq HSN e0
              go_wp2
              go_roundw
              case rel => exact ⟨k + 1, true, by omega, by go_num, rfl, by rw [HQ.out]; rfl, HBR.out.alloc HBR.out.size _⟩
              case measure => simp [intOf]; omega
            · have hb0 : (t.1 == 0) = false := by simpa using e0
              by_cases e1 : t.1 < -(V : Int)
              · have hq : M.own V (M.lits (ts.take (k + 1))) = false := by rw [HSN.out]; simp [e1]
                have HQ := Lib.hid hq
                clear hq HSN
                go_wp2
                go_roundw
                case rel => exact ⟨k + 1, true, by omega, by go_num, rfl, by rw [HQ.out]; rfl, HBR.out.alloc HBR.out.size _⟩
                case measure => simp [intOf]; omega
              · by_cases e2 : (V : Int) < t.1
                · have hq : M.own V (M.lits (ts.take (k + 1))) = false := by rw [HSN.out]; simp [e2]
                  have HQ := Lib.hid hq
                  clear hq HSN
                  go_wp2
                  go_roundw
                  case rel => exact ⟨k + 1, true, by omega, by go_num, rfl, by rw [HQ.out]; rfl, HBR.out.alloc HBR.out.size _⟩
                  case measure => simp [intOf]; omega
                · have hq : M.own V (M.lits (ts.take (k + 1))) = true := by rw [HSN.out]; first | (simp [e0, e1, e2]; done) | (simp [e0, e1, e2]; omega)
                  have HQ := Lib.hid hq
                  clear hq HSN
                  go_wp2
                  go_roundw
                  case rel => exact ⟨k + 1, false, by omega, by go_num, rfl, by rw [HQ.out]; rfl, HBR.out.alloc HBR.out.size _⟩
                  case measure => simp [intOf]; omega
          · have hu2 : M.own V (M.lits (ts.take k)) = false := by have := HU.out; simpa using this.symm
            have hq : M.own V (M.lits (ts.take (k + 1))) = false := by rw [HSN.out, hu2]; rfl
            have HQ := Lib.hid hq
            clear hq HSN hu2 HU
            go_wp2
            go_roundw
            case rel => exact ⟨k + 1, true, by omega, by go_num, rfl, by rw [HQ.out]; rfl, HBR.out.alloc HBR.out.size _⟩
            case measure => simp [intOf]; omega
        · obtain rfl : k = ts.length := by omega
          have hu := HU.out
          rw [List.take_length] at hu
          have HU1 := Lib.hid hu
          clear hu HU
          obtain ⟨wo, hwo⟩ : ∃ wo, wo = wr := ⟨_, rfl⟩
          subst hwo
          go_wp2
          go_loop [16, 18, 83] (fun v _ i => ∃ (k : Nat) (g : Bool), k ≤ zs.length ∧ i = .int .i64 k ∧ v = .bool g ∧ g = (decide (62 < zs.length) || !M.own V (zs.take k))) (fun _ _ i => zs.length - (intOf i).toNat)
          case atStart =>
            have e62 : ((62 : Int) < (zs.length : Int)) ↔ 62 < zs.length := by omega
            exact ⟨0, _, Nat.zero_le _, rfl, rfl, by simp [M.own, e62]⟩
          case round =>
            obtain ⟨k, g, hk, rfl, rfl, hg⟩ := hrel
            have HGG := Lib.hid hg
            clear hg
            by_cases hlt2 : k < zs.length
            · obtain ⟨b2, off2, rfl, hbl2, hc2⟩ := (HY.out.below (HBW.out _ HBR.out)).addr (by omega)
              obtain ⟨z, hzk⟩ : ∃ z, zs[k]? = some z := ⟨zs[k], by simp [hlt2]⟩
              have hcz := hc2 k z hzk
              have hsn : M.own V (zs.take (k + 1)) = (M.own V (zs.take k) && M.own V [z]) := by
                unfold M.own
                rw [List.take_add_one, hzk]; simp
              rw [M.own_one] at hsn
              have HSN := Lib.hid hsn
              clear hc2 hzk hsn
              cases g
              · have hg2 : decide (62 < zs.length) = false ∧ M.own V (zs.take k) = true := by have := HGG.out.symm; simpa using this
                have HD := Lib.hid hg2.1
                rw [hg2.2] at HSN
                clear hg2 HGG
                by_cases e0 : z = 0
                · have hq : M.own V (zs.take (k + 1)) = false := by rw [HSN.out]; simp [e0]
                  have HQ := Lib.hid hq
                  rw [e0] at hcz
                  clear hq HSN e0
                  go_wp2
                  go_round
                  case rel => exact ⟨k + 1, true, by omega, by go_num, rfl, by rw [HQ.out, HD.out]; rfl⟩
                  case measure => simp [intOf]; omega
                · have hb0 : (z == 0) = false := by simpa using e0
                  by_cases e1 : z < -(V : Int)
                  · have hq : M.own V (zs.take (k + 1)) = false := by rw [HSN.out]; simp [e1]
                    have HQ := Lib.hid hq
                    clear hq HSN
                    go_wp2
                    go_round
                    case rel => exact ⟨k + 1, true, by omega, by go_num, rfl, by rw [HQ.out, HD.out]; rfl⟩
                    case measure => simp [intOf]; omega
                  · by_cases e2 : (V : Int) < z
                    · have hq : M.own V (zs.take (k + 1)) = false := by rw [HSN.out]; simp [e2]
                      have HQ := Lib.hid hq
                      clear hq HSN
                      go_wp2
                      go_round
                      case rel => exact ⟨k + 1, true, by omega, by go_num, rfl, by rw [HQ.out, HD.out]; rfl⟩
                      case measure => simp [intOf]; omega
                    · have hq : M.own V (zs.take (k + 1)) = true := by rw [HSN.out]; first | (simp [e0, e1, e2]; done) | (simp [e0, e1, e2]; omega)
                      have HQ := Lib.hid hq
                      clear hq HSN
                      go_wp2
                      go_round
                      case rel => exact ⟨k + 1, false, by omega, by go_num, rfl, by rw [HQ.out, HD.out]; rfl⟩
                      case measure => simp [intOf]; omega
              · have hq : (decide (62 < zs.length) || !M.own V (zs.take (k + 1))) = true := by
                  have := HGG.out.symm
                  rw [HSN.out]
                  simp at this ⊢
                  rcases this with h | h
                  · exact .inl h
                  · exact .inr (.inl h)
                have HQ := Lib.hid hq
                clear hq HSN HGG
                go_wp2
                go_round
                case rel => exact ⟨k + 1, true, by omega, by go_num, rfl, HQ.out.symm⟩
                case measure => simp [intOf]; omega
            · obtain rfl : k = zs.length := by omega
              have hg := HGG.out
              rw [List.take_length] at hg
              have HG1 := Lib.hid hg
              clear hg HGG hneg hneg2
              have HBo := Lib.hid (HBW.out _ HBR.out)
              have h5 := clone_any w.heap.size W0.heap.size V [] none 0 wo (HFW.out _ HBR.out)
              have H5 := Lib.hid h5
              clear h5
              go_wp2_with fail
              refine H5.out.mono ?_
              rintro e w3 ⟨q, a3, c3, rfl, hF3, hb3⟩
              have HF3 := Lib.hid hF3
              have HB3 := Lib.hid hb3
              clear hF3 hb3 H5
              cases g
              · have hg2 : decide (62 < zs.length) = false ∧ M.own V zs = true := by have := HG1.out.symm; simpa using this
                have H6 := Lib.hid (atmost_ok wo.heap.size q V a3 c3 b d zs w3 HF3.out HB3.out.size (by omega) (HY.out.below (HBo.out.trans (HB3.out.mono HBo.out.size))) (fun ad e => Nat.lt_of_lt_of_le (HY.out.effB ad e) HBo.out.size) (by have := hg2.1; simp at this; omega) hg2.2)
                clear hg2 HG1
                go_wp2_with fail
                refine H6.out.mono ?_
                rintro e w5 ⟨s5, rfl, hb4⟩
                have hb5 : Below W2.heap.size W2 w5 := HBR.out.trans ((HB3.out.trans hb4).mono HBR.out.size)
                have HNN := Lib.hid (num_nil w5)
                clear hb4 H6
                go_wp2_with fail
                refine HNN.out.mono ?_
                rintro e w5' ⟨rfl, rfl⟩
                clear HNN
                have HB5 := Lib.hid hb5
                have HF5 := Lib.hid (HFW.out _ HB5.out)
                have HBw5 := Lib.hid (HBW.out _ HB5.out)
                clear hb5
                have h7 := clone_any w.heap.size W0.heap.size V [] none 0 w5 HF5.out
                have H7 := Lib.hid h7
                clear h7
                go_wp2_with fail
                refine H7.out.mono ?_
                rintro e w6 ⟨q2, a6, c6, rfl, hF6, hb6⟩
                have HF6 := Lib.hid hF6
                have HB6 := Lib.hid (HB5.out.trans (hb6.mono HB5.out.size))
                have HBw6 := Lib.hid (HBW.out _ HB6.out)
                have hs6 := hb6.size
                have HB56 := Lib.hid hb6
                clear hF6 hb6 H7
                cases hok : ts.all M.wOk
                · have hEv := HEV.out
                  rw [hok] at hEv
                  have hE9 : E = 10 := hEv
                  have H8 := Lib.hid (bits_badW (.pointer (some ⟨q2, 0, none⟩)) a c ts (A 9) w6 (HZ.out.below HBw6.out) hok (by omega) ((HE.out.below HBw6.out).at' 9 _ rfl).cell)
                  clear hEv hok
                  subst hE9
                  clear HEV
                  go_wp2_with fail
                  refine H8.out.mono ?_
                  rintro e w8 ⟨rfl, hb8⟩
                  have HB8 := Lib.hid (HBw6.out.trans (hb8.mono HBw6.out.size))
                  have H9 := Lib.hid (num_err A 9 w8 (by omega) (HE.out.below HB8.out))
                  clear hb8 H8
                  go_wp2_with fail
                  refine H9.out.mono ?_
                  rintro e w9 ⟨rfl, hb9⟩
                  have HB9 := Lib.hid (HB8.out.trans (hb9.mono HB8.out.size))
                  clear hb9 H9
                  go_wp2
                  go_ret
                  exact ⟨rfl, HB9.out⟩
                · have hEv := HEV.out
                  rw [hok] at hEv
                  have hE9 : E = 0 := hEv
                  cases hwr : M.own V (M.lits ts)
                  · have hu := HU1.out
                    rw [hwr] at hu
                    have hu2 : u = true := hu
                    subst hu2
                    clear HU1 hu
                    have H8 := Lib.hid (bits_badL q2 V a c ts (errAt (A 9)) w6 HF6.out.cell0 (by omega) (HZ.out.below HBw6.out) hok (by omega) hwr ((HE.out.below HBw6.out).at' 9 _ rfl).cell)
                    clear hEv hok hwr
                    subst hE9
                    clear HEV
                    go_wp2_with fail
                    refine H8.out.mono ?_
                    rintro e w8 ⟨rfl, hb8⟩
                    have HB8 := Lib.hid (HBw6.out.trans (hb8.mono HBw6.out.size))
                    have H9 := Lib.hid (num_err A 9 w8 (by omega) (HE.out.below HB8.out))
                    clear hb8 H8
                    go_wp2_with fail
                    refine H9.out.mono ?_
                    rintro e w9 ⟨rfl, hb9⟩
                    have HB9 := Lib.hid (HB8.out.trans (hb9.mono HB8.out.size))
                    clear hb9 H9
                    go_wp2
                    go_ret
                    exact ⟨rfl, HB9.out⟩
                  · have hu := HU1.out
                    rw [hwr] at hu
                    have hu2 : u = false := hu
                    subst hu2
                    clear HU1 hu
                    have H8 := Lib.hid (bits_any w5.heap.size q2 V 700 a6 c6 a c ts w6 HF6.out hs6 (HZ.out.below HBw6.out) (fun h0 ad e _ => by
                      obtain ⟨b', off, e2, hlt, _⟩ := HZ.out.addr h0
                      rw [e2] at e; cases e
                      exact .inl (Nat.lt_of_lt_of_le hlt HBw5.out.size)) hok (by omega) hwr (by omega) (by omega))
                    clear hEv hok hwr
                    subst hE9
                    clear HEV
                    go_wp2_with fail
                    refine H8.out.mono ?_
                    rintro e w8 ⟨gs, bits, a8, c8, rfl, _, ⟨a9, c9, _, hk9⟩, _⟩
                    have HB8 := Lib.hid (HBw5.out.trans ((show Below w5.heap.size w5 w8 from HB56.out.trans (hk9.below hs6)).mono HBw5.out.size))
                    clear hk9 H8
                    go_wp2
                    go_ret
                    exact ⟨rfl, HB8.out⟩
              · have hg2 : 62 < zs.length ∨ M.own V zs = false := by have := HG1.out.symm; simpa using this
                have H6 := Lib.hid (atmost_bad q V b d zs 3 (errAt (A 9)) w3 HF3.out.cell0 (by omega) (HY.out.below (HBo.out.trans (HB3.out.mono HBo.out.size))) hg2 ((HE.out.below (HBo.out.trans (HB3.out.mono HBo.out.size))).at' 9 _ rfl).cell)
                clear hg2 HG1
                go_wp2_with fail
                refine H6.out.mono ?_
                rintro e w4 ⟨rfl, hb4⟩
                have hb4' : Below W2.heap.size W2 w4 := HBR.out.trans ((HB3.out.trans (hb4.mono HB3.out.size)).mono HBR.out.size)
                have HB4 := Lib.hid hb4'
                have HNN := Lib.hid (num_err A 9 w4 (by omega) (HE.out.below (HBW.out _ hb4')))
                clear hb4 hb4' H6
                go_wp2_with fail
                refine HNN.out.mono ?_
                rintro e w5 ⟨rfl, hb5'⟩
                have hb5 : Below W2.heap.size W2 w5 := HB4.out.trans (hb5'.mono HB4.out.size)
                clear HNN hb5'
                have HB5 := Lib.hid hb5
                have HF5 := Lib.hid (HFW.out _ HB5.out)
                have HBw5 := Lib.hid (HBW.out _ HB5.out)
                clear hb5
                have h7 := clone_any w.heap.size W0.heap.size V [] none 0 w5 HF5.out
                have H7 := Lib.hid h7
                clear h7
                go_wp2_with fail
                refine H7.out.mono ?_
                rintro e w6 ⟨q2, a6, c6, rfl, hF6, hb6⟩
                have HF6 := Lib.hid hF6
                have HB6 := Lib.hid (HB5.out.trans (hb6.mono HB5.out.size))
                have HBw6 := Lib.hid (HBW.out _ HB6.out)
                have hs6 := hb6.size
                have HB56 := Lib.hid hb6
                clear hF6 hb6 H7
                cases hok : ts.all M.wOk
                · have hEv := HEV.out
                  rw [hok] at hEv
                  have hE9 : E = 10 := hEv
                  have H8 := Lib.hid (bits_badW (.pointer (some ⟨q2, 0, none⟩)) a c ts (A 9) w6 (HZ.out.below HBw6.out) hok (by omega) ((HE.out.below HBw6.out).at' 9 _ rfl).cell)
                  clear hEv hok
                  subst hE9
                  clear HEV
                  go_wp2_with fail
                  refine H8.out.mono ?_
                  rintro e w8 ⟨rfl, hb8⟩
                  have HB8 := Lib.hid (HBw6.out.trans (hb8.mono HBw6.out.size))
                  have H9 := Lib.hid (num_err A 9 w8 (by omega) (HE.out.below HB8.out))
                  clear hb8 H8
                  go_wp2_with fail
                  refine H9.out.mono ?_
                  rintro e w9 ⟨rfl, hb9⟩
                  have HB9 := Lib.hid (HB8.out.trans (hb9.mono HB8.out.size))
                  clear hb9 H9
                  go_wp2
                  go_ret
                  exact ⟨rfl, HB9.out⟩
                · have hEv := HEV.out
                  rw [hok] at hEv
                  have hE9 : E = 0 := hEv
                  cases hwr : M.own V (M.lits ts)
                  · have hu := HU1.out
                    rw [hwr] at hu
                    have hu2 : u = true := hu
                    subst hu2
                    clear HU1 hu
                    have H8 := Lib.hid (bits_badL q2 V a c ts (errAt (A 9)) w6 HF6.out.cell0 (by omega) (HZ.out.below HBw6.out) hok (by omega) hwr ((HE.out.below HBw6.out).at' 9 _ rfl).cell)
                    clear hEv hok hwr
                    subst hE9
                    clear HEV
                    go_wp2_with fail
                    refine H8.out.mono ?_
                    rintro e w8 ⟨rfl, hb8⟩
                    have HB8 := Lib.hid (HBw6.out.trans (hb8.mono HBw6.out.size))
                    have H9 := Lib.hid (num_err A 9 w8 (by omega) (HE.out.below HB8.out))
                    clear hb8 H8
                    go_wp2_with fail
                    refine H9.out.mono ?_
                    rintro e w9 ⟨rfl, hb9⟩
                    have HB9 := Lib.hid (HB8.out.trans (hb9.mono HB8.out.size))
                    clear hb9 H9
                    go_wp2
                    go_ret
                    exact ⟨rfl, HB9.out⟩
                  · have hu := HU1.out
                    rw [hwr] at hu
                    have hu2 : u = false := hu
                    subst hu2
                    clear HU1 hu
                    have H8 := Lib.hid (bits_any w5.heap.size q2 V 700 a6 c6 a c ts w6 HF6.out hs6 (HZ.out.below HBw6.out) (fun h0 ad e _ => by
                      obtain ⟨b', off, e2, hlt, _⟩ := HZ.out.addr h0
                      rw [e2] at e; cases e
                      exact .inl (Nat.lt_of_lt_of_le hlt HBw5.out.size)) hok (by omega) hwr (by omega) (by omega))
                    clear hEv hok hwr
                    subst hE9
                    clear HEV
                    go_wp2_with fail
                    refine H8.out.mono ?_
                    rintro e w8 ⟨gs, bits, a8, c8, rfl, _, ⟨a9, c9, _, hk9⟩, _⟩
                    have HB8 := Lib.hid (HBw5.out.trans ((show Below w5.heap.size w5 w8 from HB56.out.trans (hk9.below hs6)).mono HBw5.out.size))
                    clear hk9 H8
                    go_wp2
                    go_ret
                    exact ⟨rfl, HB8.out⟩
    · go_wp2
      go_ret
      exact ⟨rfl, HB0.out⟩
  · go_wp2
    go_ret
    exact ⟨rfl, HB0.out⟩
end Go.Proofs.YtllkeojkejbbeaaDoor

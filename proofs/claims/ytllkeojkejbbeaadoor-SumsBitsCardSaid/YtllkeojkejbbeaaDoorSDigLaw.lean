/- The walk of haversacklaw16.SumsDigits. -/
import Derived.Test.YtllkeojkejbbeaaDoorSDig
import Derived.Deep.RegionHeld3
namespace Go.Proofs.YtllkeojkejbbeaaDoor
open Go.RowKit

def Alive16 : Prop := ∀ w : World, Calls Tryd.prog 30 #[] w fun e w' => e = .returned (.bool true) ∧ Below w.heap.size w w'
theorem M.back_ok (n : Int) : ∃ bk : Int, (if (M.dig n.toNat).length ≤ 62 then (M.num (M.dig n.toNat) : Int) else 0) = bk ∧ (n < 0 → bk = 0) ∧ (0 ≤ n → n < 4611686018427387904 → bk = n) := by
  refine ⟨_, rfl, fun h => ?_, fun h0 h1 => ?_⟩
  · have e : n.toNat = 0 := by omega
    rw [e, M.dig_zero]; rfl
  · have hl : (M.dig n.toNat).length ≤ 62 := M.dig_len (by omega)
    rw [if_pos hl, M.num_dig]; omega
set_option maxHeartbeats 4000000 in
set_option maxRecDepth 100000 in
theorem digitsLaw (hal : Alive16) (n : Int) (b : Option Addr) (d : Nat) (ds : List Bool) (w : World) (hn : I64 n) (hz : Bools w b ds) :
    Calls Tryd.prog 5 #[.int .i64 n, .slice b ds.length d] w fun e w' => e = .returned (.bool true) ∧ Below w.heap.size w w' := by
  have hlen := hz.len
  have HAL := Lib.hid (hal w)
  have HN := Lib.hid hn
  have HZ := Lib.hid hz
  clear hal hn hz
  go_enter Tryd.func5, Tryd.ntmps5
  by_cases hl : ds.length ≤ 200
  · go_wp2_with fail
    refine HAL.out.mono ?_
    rintro e w0 ⟨rfl, hb0⟩
    have HB0 := Lib.hid hb0
    have H1 := Lib.hid (digits_any n w0 HN.out)
    clear hb0 HAL
    go_wp2_with fail
    refine H1.out.mono ?_
    rintro e w1 ⟨a1, c1, rfl, ho1, hb1⟩
    have HB1 := Lib.hid (HB0.out.trans (hb1.mono HB0.out.size))
    have HO1 := Lib.hid ho1
    have H2 := Lib.hid (rdigits_any n w1 HN.out)
    clear hb1 ho1 H1
    go_wp2_with fail
    refine H2.out.mono ?_
    rintro e w2 ⟨a2, c2, rfl, ho2, hb2⟩
    have HO1b := Lib.hid (HO1.out.below hb2)
    have HB2 := Lib.hid (HB1.out.trans (hb2.mono HB1.out.size))
    have HO2 := Lib.hid ho2
    clear hb2 ho2 H2 HO1 HB1 HB0
    have hd64 : (M.dig n.toNat).length ≤ 63 := M.dig_len (by have := HN.out.hi; omega)
    obtain ⟨D, hD⟩ : ∃ D, D = M.dig n.toNat := ⟨_, rfl⟩
    have hbk := M.back_ok n
    rw [← hD] at HO1b HO2 hd64 hbk ⊢
    obtain ⟨bk, hbk0, hbk1, hbk2⟩ := hbk
    have HI1 := Lib.hid (HO1b.out.bools (by omega))
    have HI2 := Lib.hid (HO2.out.bools (by omega))
    have HZ2 := Lib.hid (HZ.out.below HB2.out)
    have HK1 := Lib.hid hbk1
    have HK2 := Lib.hid hbk2
    have HK0 := Lib.hid hbk0
    clear hbk1 hbk2 hbk0 hD HO1b HO2 HZ
    go_wp2
    go_loopw [7, 28] (fun _ i wr => ∃ k : Nat, k ≤ D.length ∧ i = .int .i64 k ∧ Below w2.heap.size w2 wr) (fun _ i _ => D.length - (intOf i).toNat)
    case atStart => exact ⟨0, Nat.zero_le _, rfl, Below.refl _ _⟩
    case round =>
      obtain ⟨k, hk, rfl, hbr⟩ := hrel
      have HBR := Lib.hid hbr
      clear hbr
      by_cases hlt : k < D.length
      · obtain ⟨b1, o1, rfl, hbl1, hc1⟩ := (HI1.out.below HBR.out).addr (by omega)
        obtain ⟨b2, o2, rfl, hbl2, hc2⟩ := (HI2.out.below HBR.out).addr (by omega)
        obtain ⟨z, hzk⟩ : ∃ z, D[k]? = some z := ⟨D[k], by simp [hlt]⟩
        have r1 := hc1 k z hzk
        have r2 := hc2 k z hzk
        clear hc1 hc2 hzk
        go_wp2
        go_quiet (fail)
        go_wp2
        go_roundw
        case rel => exact ⟨k + 1, by omega, by go_num, HBR.out.trans ⟨rfl, rfl, rfl, Nat.le_refl _, fun _ _ => rfl⟩⟩
        case measure => simp [intOf]; omega
      · obtain rfl : k = D.length := by omega
        have HBA := Lib.hid (HB2.out.trans (HBR.out.mono HB2.out.size))
        have HI3 := Lib.hid (HI1.out.below HBR.out)
        have HZ3 := Lib.hid (HZ2.out.below HBR.out)
        clear HI1 HI2 HB2 HZ2 HBR
        obtain ⟨wo, hwo⟩ : ∃ wo, wo = wr := ⟨_, rfl⟩
        subst hwo
        have hn1 := HN.out.lo
        have hn2 := HN.out.hi
        have hnb := number_any a1 c1 D wo HI3.out
        rw [HK0.out] at hnb
        have HNB := Lib.hid hnb
        clear hnb
        by_cases hl62 : ds.length ≤ 62
        · have hnd := number_any b d ds wo HZ3.out
          rw [if_pos hl62] at hnd
          have HND := Lib.hid hnd
          clear hnd
          go_wp2
          go_loop [8, 9, 10, 46] (fun v _ _ i => ∃ k : Nat, k ≤ ds.length ∧ i = .int .i64 k ∧ v = .int .i64 (M.num (ds.take k))) (fun _ _ _ i => ds.length - (intOf i).toNat)
          case atStart => exact ⟨0, Nat.zero_le _, rfl, rfl⟩
          case round =>
            obtain ⟨k, hk, rfl, rfl⟩ := hrel
            by_cases hlt : k < ds.length
            · obtain ⟨b, off, rfl, hbl, hc⟩ := HZ3.out.addr (by omega)
              obtain ⟨z, hzk⟩ : ∃ z, ds[k]? = some z := ⟨ds[k], by simp [hlt]⟩
              have hcell := hc k z hzk
              have hn := M.num_snoc hzk
              have hnl : M.num (ds.take k) < 2 ^ k := by
                have := M.num_lt (ds.take k)
                rwa [List.length_take, Nat.min_eq_left hk] at this
              have hp := pow_small (k := k) (by omega)
              have hw : wrap64 ((2 : Int) ^ k) = (2 : Int) ^ k := by
                have e : ((2 : Int) ^ k) = ((2 ^ k : Nat) : Int) := by simp
                rw [e]; exact IntWalk.wrap64_in _ ⟨by omega, by omega⟩
              have hw2 : wrap64 ((M.num (ds.take k) : Int) + (2 : Int) ^ k) = (M.num (ds.take k) : Int) + (2 : Int) ^ k := by
                have e : ((2 : Int) ^ k) = ((2 ^ k : Nat) : Int) := by simp
                rw [e]; exact IntWalk.wrap64_in _ ⟨by omega, by omega⟩
              clear hc hzk
              cases z
              · go_wp2
                go_round
                case rel => exact ⟨k + 1, by omega, by go_num, by rw [hn]; rfl⟩
                case measure => simp [intOf]; omega
              · go_wp2
                go_round
                case rel => exact ⟨k + 1, by omega, by go_num, by rw [hn, if_pos rfl]; simp [hw2]⟩
                case measure => simp [intOf]; omega
            · obtain rfl : k = ds.length := by omega
              rw [List.take_length]
              by_cases hneg : n < 0
              · have hb := HK1.out hneg
                subst hb
                go_wp2_with (go_at_call 36; first | ((with_reducible refine HNB.out.mono ?_); rintro e w' ⟨rfl, rfl⟩) | ((with_reducible refine HND.out.mono ?_); rintro e w' ⟨rfl, rfl⟩))
                go_ret
                exact ⟨rfl, HBA.out⟩
              · by_cases hbig : 4611686018427387904 ≤ n
                · go_wp2_with (go_at_call 36; first | ((with_reducible refine HNB.out.mono ?_); rintro e w' ⟨rfl, rfl⟩) | ((with_reducible refine HND.out.mono ?_); rintro e w' ⟨rfl, rfl⟩))
                  go_ret
                  exact ⟨rfl, HBA.out⟩
                · have hb := HK2.out (by omega) (by omega)
                  subst hb
                  go_wp2_with (go_at_call 36; first | ((with_reducible refine HNB.out.mono ?_); rintro e w' ⟨rfl, rfl⟩) | ((with_reducible refine HND.out.mono ?_); rintro e w' ⟨rfl, rfl⟩))
                  go_ret
                  exact ⟨rfl, HBA.out⟩
        · have hnd := number_any b d ds wo HZ3.out
          rw [if_neg hl62] at hnd
          have HND := Lib.hid hnd
          clear hnd
          by_cases hneg : n < 0
          · have hb := HK1.out hneg
            subst hb
            go_wp2_with (go_at_call 36; first | ((with_reducible refine HNB.out.mono ?_); rintro e w' ⟨rfl, rfl⟩) | ((with_reducible refine HND.out.mono ?_); rintro e w' ⟨rfl, rfl⟩))
            go_ret
            exact ⟨rfl, HBA.out⟩
          · by_cases hbig : 4611686018427387904 ≤ n
            · go_wp2_with (go_at_call 36; first | ((with_reducible refine HNB.out.mono ?_); rintro e w' ⟨rfl, rfl⟩) | ((with_reducible refine HND.out.mono ?_); rintro e w' ⟨rfl, rfl⟩))
              go_ret
              exact ⟨rfl, HBA.out⟩
            · have hb := HK2.out (by omega) (by omega)
              subst hb
              go_wp2_with (go_at_call 36; first | ((with_reducible refine HNB.out.mono ?_); rintro e w' ⟨rfl, rfl⟩) | ((with_reducible refine HND.out.mono ?_); rintro e w' ⟨rfl, rfl⟩))
              go_ret
              exact ⟨rfl, HBA.out⟩
  · go_wp2_with fail
    refine HAL.out.mono ?_
    rintro e w0 ⟨rfl, hb0⟩
    have HB0 := Lib.hid hb0
    clear hb0
    go_wp2
    go_ret
    exact ⟨rfl, HB0.out⟩
end Go.Proofs.YtllkeojkejbbeaaDoor

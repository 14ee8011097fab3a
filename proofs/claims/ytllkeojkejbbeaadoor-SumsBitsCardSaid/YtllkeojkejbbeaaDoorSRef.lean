/- haversackref16.Bound, Value. -/
import Derived.Test.YtllkeojkejbbeaaDoorSBound
namespace Go.Proofs.YtllkeojkejbbeaaDoor
open Go.RowKit

set_option maxHeartbeats 1000000 in
theorem rbound_ok (a : Option Addr) (c : Nat) (ts : List M.Wt) (w : World) (hz : Wts w a ts) (hok : ts.all M.wOk = true) (hl : ts.length ≤ 1000) :
    Calls Tryd.prog 39 #[.slice a ts.length c] w fun e w' => e = .returned (.tuple #[.int .i64 (M.wSum ts), .int .i64 (M.wCnt ts), .int .i64 0]) ∧ Below w.heap.size w w' := by
  have hsum := M.sum_le hok
  have hcnt := M.cnt_le ts
  go_enter Tryd.func39, Tryd.ntmps39
  go_wp2
  go_loopw [6, 13] (fun _ i wr => ∃ k : Nat, k ≤ ts.length ∧ i = .int .i64 k ∧ Below w.heap.size w wr) (fun _ i _ => ts.length - (intOf i).toNat)
  case atStart => exact ⟨0, Nat.zero_le _, rfl, Below.refl _ _⟩
  case round =>
    obtain ⟨k, hk, rfl, hb⟩ := hrel
    have HB := Lib.hid hb
    clear hb
    by_cases hlt : k < ts.length
    · obtain ⟨b, off, rfl, hbl, hc⟩ := (hz.below HB.out).addr (by omega)
      obtain ⟨t, htk⟩ : ∃ t, ts[k]? = some t := ⟨ts[k], by simp [hlt]⟩
      obtain ⟨hc0, hc1⟩ := hc k t htk
      obtain ⟨ht0, ht1⟩ := (M.wOk_iff t).1 (List.all_eq_true.1 hok t (List.mem_of_getElem? htk))
      clear hc htk
      go_wp2
      go_roundw
      case rel => exact ⟨k + 1, by omega, by go_num, HB.out.alloc HB.out.size _⟩
      case measure => simp [intOf]; omega
    · go_wp2
      go_loopw [7, 8, 10, 28] (fun s n _ i wr => ∃ k : Nat, k ≤ ts.length ∧ i = .int .i64 k ∧ s = .int .i64 (M.wSum (ts.take k)) ∧ n = .int .i64 (M.wCnt (ts.take k)) ∧ Below w.heap.size w wr) (fun _ _ _ i _ => ts.length - (intOf i).toNat)
      case atStart => exact ⟨0, Nat.zero_le _, rfl, rfl, rfl, HB.out⟩
      case round =>
        obtain ⟨k, hk, rfl, rfl, rfl, hb⟩ := hrel
        have HB2 := Lib.hid hb
        clear hb HB
        by_cases hlt : k < ts.length
        · obtain ⟨b, off, rfl, hbl, hc⟩ := (hz.below HB2.out).addr (by omega)
          obtain ⟨t, htk⟩ : ∃ t, ts[k]? = some t := ⟨ts[k], by simp [hlt]⟩
          obtain ⟨hc0, hc1⟩ := hc k t htk
          obtain ⟨ht0, ht1⟩ := (M.wOk_iff t).1 (List.all_eq_true.1 hok t (List.mem_of_getElem? htk))
          have hs1 := M.wSum_snoc htk
          have hn1 := M.wCnt_snoc htk
          have hle1 : M.wSum (ts.take k) ≤ k * 1048576 := by
            have := M.sum_le (M.all_take k hok)
            rw [List.length_take, Nat.min_eq_left hk] at this; exact this
          have hle2 : M.wCnt (ts.take k) ≤ k := by
            have := M.cnt_le (ts.take k)
            rw [List.length_take, Nat.min_eq_left hk] at this; exact this
          have e1 : ((M.wSum (ts.take k) + t.2.toNat : Nat) : Int) = (M.wSum (ts.take k) : Int) + t.2 := by omega
          have hw1 : wrap64 ((M.wSum (ts.take k) : Int) + t.2) = (M.wSum (ts.take k) : Int) + t.2 := IntWalk.wrap64_in _ ⟨by omega, by omega⟩
          have hg1 : ¬ (1099511627776 < (M.wSum (ts.take k) : Int) + t.2) := by omega
          clear hc htk
          by_cases hp : 0 < t.2
          · rw [if_pos hp] at hn1
            go_wp2
            go_roundw
            case rel => exact ⟨k + 1, by omega, by go_num, by rw [hs1, e1], by rw [hn1]; go_num, HB2.out.alloc HB2.out.size _⟩
            case measure => simp [intOf]; omega
          · rw [if_neg hp] at hn1
            go_wp2
            go_roundw
            case rel => exact ⟨k + 1, by omega, by go_num, by rw [hs1, e1], by rw [hn1]; rfl, HB2.out.alloc HB2.out.size _⟩
            case measure => simp [intOf]; omega
        · obtain rfl : k = ts.length := by omega
          rw [List.take_length]
          go_wp2
          go_ret3
          exact ⟨rfl, HB2.out⟩
set_option maxHeartbeats 1000000 in
theorem rbound_bad (a : Option Addr) (c : Nat) (ts : List M.Wt) (w : World) (hz : Wts w a ts) (hbad : ts.all M.wOk = false) (hl : ts.length ≤ 1000) :
    Calls Tryd.prog 39 #[.slice a ts.length c] w fun e w' => e = .returned (.tuple #[.int .i64 0, .int .i64 0, .int .i64 10]) ∧ Below w.heap.size w w' := by
  go_enter Tryd.func39, Tryd.ntmps39
  go_wp2
  go_loopw [6, 13] (fun _ i wr => ∃ k : Nat, k ≤ ts.length ∧ i = .int .i64 k ∧ (ts.take k).all M.wOk = true ∧ Below w.heap.size w wr) (fun _ i _ => ts.length - (intOf i).toNat)
  case atStart => exact ⟨0, Nat.zero_le _, rfl, rfl, Below.refl _ _⟩
  case round =>
    obtain ⟨k, hk, rfl, hok, hb⟩ := hrel
    have HB := Lib.hid hb
    have HOK := Lib.hid hok
    clear hb hok
    by_cases hlt : k < ts.length
    · obtain ⟨b, off, rfl, hbl, hc⟩ := (hz.below HB.out).addr (by omega)
      obtain ⟨t, htk⟩ : ∃ t, ts[k]? = some t := ⟨ts[k], by simp [hlt]⟩
      obtain ⟨hc0, hc1⟩ := hc k t htk
      have HTK := Lib.hid htk
      clear hc htk
      by_cases hw : M.wOk t = true
      · obtain ⟨ht0, ht1⟩ := (M.wOk_iff t).1 hw
        have HW := Lib.hid hw
        clear hw
        go_wp2
        go_roundw
        case rel => exact ⟨k + 1, by omega, by go_num, M.all_snoc HTK.out HOK.out HW.out, HB.out.alloc HB.out.size _⟩
        case measure => simp [intOf]; omega
      · have hw2 : t.2 < 0 ∨ 1048576 < t.2 := by
          have := mt (M.wOk_iff t).2 hw
          omega
        clear hw
        rcases hw2 with hw2 | hw2
        · go_wp2
          go_ret3
          exact ⟨rfl, HB.out.alloc HB.out.size _⟩
        · by_cases hneg : t.2 < 0
          · omega
          · go_wp2
            go_ret3
            exact ⟨rfl, HB.out.alloc HB.out.size _⟩
    · obtain rfl : k = ts.length := by omega
      have hok := HOK.out
      rw [List.take_length, hbad] at hok
      cases hok
set_option maxHeartbeats 1000000 in
theorem rvalue_any (a : Option Addr) (c : Nat) (ts : List M.Wt) (b : Option Addr) (d : Nat) (m : List Bool) (w : World) (hz : Wts w a ts) (hm : Bools w b m) (hok : ts.all M.wOk = true) (hl : ts.length ≤ 1000) :
    Calls Tryd.prog 40 #[.slice a ts.length c, .slice b m.length d] w fun e w' => e = .returned (.int .i64 (M.wVal ts m)) ∧ Below w.heap.size w w' := by
  go_enter Tryd.func40, Tryd.ntmps40
  go_wp2
  go_loopw [5, 7, 10] (fun s _ i wr => ∃ k : Nat, k ≤ ts.length ∧ i = .int .i64 k ∧ s = .int .i64 (M.wVal (ts.take k) m) ∧ Below w.heap.size w wr) (fun _ _ i _ => ts.length - (intOf i).toNat)
  case atStart => exact ⟨0, Nat.zero_le _, rfl, rfl, Below.refl _ _⟩
  case round =>
    obtain ⟨k, hk, rfl, rfl, hb⟩ := hrel
    have HB := Lib.hid hb
    clear hb
    by_cases hlt : k < ts.length
    · obtain ⟨b1, off, rfl, hbl, hc⟩ := (hz.below HB.out).addr (by omega)
      obtain ⟨t, htk⟩ : ∃ t, ts[k]? = some t := ⟨ts[k], by simp [hlt]⟩
      obtain ⟨hc0, hc1⟩ := hc k t htk
      obtain ⟨ht0, ht1⟩ := (M.wOk_iff t).1 (List.all_eq_true.1 hok t (List.mem_of_getElem? htk))
      have hv1 := M.wVal_snoc m htk
      have hle : M.wVal (ts.take k) m ≤ k * 1048576 := by
        have h1 := M.sum_le (M.all_take k hok)
        have h2 := M.val_le (ts.take k) m
        rw [List.length_take, Nat.min_eq_left hk] at h1; omega
      have ht := rholds_any t.1 b d m (wr.alloc (.cells #[.int .i64 t.1, .int .i64 t.2] 57))
        ((hm.below HB.out).below ((Below.refl _ _).alloc (Nat.le_refl _) _))
      have HT := Lib.hid ht
      have e1 : ((M.wVal (ts.take k) m + t.2.toNat : Nat) : Int) = (M.wVal (ts.take k) m : Int) + t.2 := by omega
      clear hc ht
      cases hh : M.holds t.1 m
      · rw [hh, if_neg (by simp)] at hv1
        rw [hh] at HT
        go_wp2_with (go_at_call 46; refine HT.out.mono ?_; rintro e w' ⟨rfl, rfl⟩)
        go_roundw
        case rel => exact ⟨k + 1, by omega, by go_num, by rw [hv1]; rfl, HB.out.alloc HB.out.size _⟩
        case measure => simp [intOf]; omega
      · rw [hh, if_pos rfl] at hv1
        rw [hh] at HT
        go_wp2_with (go_at_call 46; refine HT.out.mono ?_; rintro e w' ⟨rfl, rfl⟩)
        go_roundw
        case rel => exact ⟨k + 1, by omega, by go_num, by rw [hv1]; go_num, HB.out.alloc HB.out.size _⟩
        case measure => simp [intOf]; omega
    · obtain rfl : k = ts.length := by omega
      rw [List.take_length]
      go_wp2
      go_ret
      exact ⟨rfl, HB.out⟩
end Go.Proofs.YtllkeojkejbbeaaDoor

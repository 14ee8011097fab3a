/- The law RulesChosen, walked. -/
import Derived.Test.YtcbboomnonnofaaDoorQAlive
namespace Go.Proofs.YtcbboomnonnofaaDoor
open Go.RowKit
open Q (It Ver Tm Sp Rc Dm)

theorem chosenL_at {m : List Bool} {n i : Nat} {x : Bool} (h : (Q.chosenL m n)[i]? = some x) : x = (m[i]?).getD false := by
  have hi : i < n := by have := (List.getElem?_eq_some_iff.1 h).1; rwa [Q.chosenL_len] at this
  unfold Q.chosenL at h
  by_cases hm : i < m.length
  · rw [List.getElem?_append_left (by simp; omega), List.getElem?_take, if_pos hi] at h
    rw [h]; rfl
  · rw [List.getElem?_append_right (by simp; omega), List.getElem?_replicate] at h
    rw [List.getElem?_eq_none (by omega)]
    split at h
    · exact (Option.some.inj h).symm
    · cases h
set_option maxHeartbeats 2000000 in
set_option maxRecDepth 100000 in
theorem chosenLaw (ad : Addr) (a : Option Addr) (c : Nat) (m : List Bool) (n : Int) (w : World) (hm : Bools w a m) (hn : I64 n) (hE : ErrR w ad) :
    Calls Tryd.prog 5 #[.slice a m.length c, .int .i64 n] w fun e w' => e = .returned (.bool true) ∧ Below w.heap.size w w' := by
  have HM := Lib.hid hm
  have hl := hm.len
  obtain ⟨hn1, hn2⟩ := hn
  have HA := Lib.hid (alive19 ad w hE)
  clear hm hE
  by_cases h1 : 1000 < m.length
  · have d1 : decide ((1000 : Int) < (m.length : Int)) = true := by simp; omega
    go_enter Tryd.func5, Tryd.ntmps5
    go_wp2_with fail
    refine HA.out.mono ?_
    rintro e w1 ⟨rfl, hb1⟩
    go_wp2
    go_ret
    exact ⟨rfl, hb1⟩
  · have d1 : decide ((1000 : Int) < (m.length : Int)) = false := by simp; omega
    by_cases h2 : 2000 < n
    · have d2 : decide ((2000 : Int) < n) = true := by simp; omega
      go_enter Tryd.func5, Tryd.ntmps5
      go_wp2_with fail
      refine HA.out.mono ?_
      rintro e w1 ⟨rfl, hb1⟩
      go_wp2
      go_ret
      exact ⟨rfl, hb1⟩
    · have d2 : decide ((2000 : Int) < n) = false := by simp; omega
      by_cases h3 : n ≤ 0
      · rcases (show n < 0 ∨ n = 0 by omega) with hneg | rfl
        all_goals
          go_enter Tryd.func5, Tryd.ntmps5
          go_wp2_with fail
          refine HA.out.mono ?_
          rintro e w1 ⟨rfl, hb1⟩
          have HB1 := Lib.hid hb1
          clear hb1
          go_wp2_with fail
          refine (chosen_nil a c m _ _ h3).mono ?_
          rintro e w2 ⟨rfl, rfl⟩
          go_wp2
          clear d1 d2
          go_loopw [6, 7, 27] (fun _ _ i wr => i = .int .i64 0 ∧ Below w.heap.size w wr) (fun _ _ i _ => 0)
          case atStart => exact ⟨rfl, HB1.out⟩
          case round =>
            obtain ⟨rfl, hbr⟩ := hrel
            go_wp2
            go_ret
            exact ⟨rfl, hbr⟩
      · obtain ⟨k, rfl⟩ : ∃ k : Nat, n = k := ⟨n.toNat, by omega⟩
        have hmax : max (k : Int) 0 = k := by omega
        go_enter Tryd.func5, Tryd.ntmps5
        go_wp2_with fail
        refine HA.out.mono ?_
        rintro e w1 ⟨rfl, hb1⟩
        have HB1 := Lib.hid hb1
        clear hb1
        go_wp2_with fail
        refine (chosen_any a c m k _ (HM.out.below HB1.out) (by omega) (by omega)).mono ?_
        rintro e w2 ⟨a2, c2, rfl, _, hB2, hb2⟩
        rw [Q.chosenL_len]
        have HC := Lib.hid hB2
        have HB2 := Lib.hid (fin HB1.out hb2)
        clear hB2 hb2
        have nn : ((k : Int) != (k : Int)) = false := by simp
        go_wp2
        clear d1 d2 hmax nn
        go_loopw [6, 7, 27] (fun _ _ i wr => ∃ j : Nat, j ≤ k ∧ i = .int .i64 j ∧ Below w2.heap.size w2 wr) (fun _ _ i _ => k - (intOf i).toNat)
        case atStart => exact ⟨0, by omega, rfl, Below.refl _ _⟩
        case round =>
          obtain ⟨j, hj, rfl, hbr⟩ := hrel
          have HB := Lib.hid hbr
          clear hbr
          by_cases hlt : j < k
          · obtain ⟨x, hx⟩ : ∃ x, (Q.chosenL m k)[j]? = some x := ⟨(Q.chosenL m k)[j]'(by rw [Q.chosenL_len]; exact hlt), by simp⟩
            have hxe := chosenL_at hx
            obtain ⟨b1, o1, rfl, hbl1, c1⟩ := (HC.out.below HB.out).addr (by rw [Q.chosenL_len]; omega)
            have e1 := c1 j x hx
            clear c1 hx
            by_cases hjm : j < m.length
            · obtain ⟨y, hy⟩ : ∃ x, m[j]? = some x := ⟨m[j], by simp [hjm]⟩
              rw [hy, Option.getD_some] at hxe
              subst hxe
              obtain ⟨b2, o2, rfl, hbl2, c2⟩ := (HM.out.below (fin HB2.out HB.out)).addr (by omega)
              have e2 := c2 j x hy
              have d3 : decide ((j : Int) < (m.length : Int)) = true := by simp; omega
              have nn : (x != x) = false := by simp
              clear c2 hy
              cases x
              all_goals
                go_wp2
                go_roundw
                case rel => exact ⟨j + 1, by omega, by go_num, HB.out⟩
                case measure => simp [intOf]; omega
            · rw [List.getElem?_eq_none (by omega)] at hxe
              simp only [Option.getD_none] at hxe
              subst hxe
              have d3 : decide ((j : Int) < (m.length : Int)) = false := by simp; omega
              go_wp2
              go_roundw
              case rel => exact ⟨j + 1, by omega, by go_num, HB.out⟩
              case measure => simp [intOf]; omega
          · go_wp2
            go_ret
            exact ⟨rfl, fin HB2.out HB.out⟩
end Go.Proofs.YtcbboomnonnofaaDoor

/- The walk of haversacklaw14.LitsTrue, given that the chapter's examples hold. -/
import Derived.Test.YtdppmmimemmedaaDoorLits2
import Derived.Test.YtdppmmimemmedaaDoorOne
namespace Go.Proofs.YtdppmmimemmedaaDoor
open Go.RowKit

/-- the chapter's examples hold -/
def Alive14 : Prop := ∀ W : World, Calls Tryd.prog 26 #[] W fun e w' => e = .returned (.bool true) ∧ Below W.heap.size W w'
theorem M.vr_max (z : Int) : M.vr z = max z (-z) := by
  by_cases hn : z < 0
  · rw [M.vr_of_neg hn]; omega
  · rw [M.vr_of_pos hn]; omega
set_option maxHeartbeats 2000000 in
set_option maxRecDepth 100000 in
theorem trueLaw (hA : Alive14) (a : Option Addr) (c : Nat) (cs : List (List Int)) (b : Option Addr) (d : Nat) (m : List Bool) (w : World) (hz : Cls w a cs) (hm : Bools w b m) :
    Calls Tryd.prog 7 #[.slice a cs.length c, .slice b m.length d] w fun e w' => e = .returned (.bool true) ∧ Below w.heap.size w w' := by
  have hlen := hz.len
  have hml := hm.len
  have HC := Lib.hid hz
  have HM := Lib.hid hm
  have HA := Lib.hid (hA w)
  clear hz hm hA
  go_enter Tryd.func7, Tryd.ntmps7
  go_wp2_with fail
  refine HA.out.mono ?_
  rintro e W0 ⟨rfl, hb0⟩
  have HB0 := Lib.hid hb0
  have hC0 := HC.out.below hb0
  have hM0 := HM.out.below hb0
  have hbig := rbig_any a c cs 60 60 W0 hC0 (by omega) (by omega)
  have HBIG := Lib.hid hbig
  have HC0 := Lib.hid hC0
  have HM0 := Lib.hid hM0
  clear hb0 hC0 hM0 hbig HA HC HM
  go_wp2_with fail
  refine HBIG.out.mono ?_
  rintro e W0' ⟨rfl, rfl⟩
  clear HBIG
  cases hbg : M.big cs 60 60
  · by_cases hm3 : 30000 < m.length
    · have hd : decide ((30000 : Int) < (m.length : Int)) = true := by simp; omega
      go_wp2
      go_ret
      exact ⟨rfl, HB0.out⟩
    · have hd : decide ((30000 : Int) < (m.length : Int)) = false := by simp; omega
      clear hbg
      go_wp2
      go_loop [5, 7, 9, 21] (fun g _ _ i => ∃ k : Nat, k ≤ cs.length ∧ i = .int .i64 k ∧ g = .int .i64 (M.vars (cs.take k))) (fun _ _ _ i => cs.length - (intOf i).toNat)
      case atStart => exact ⟨0, Nat.zero_le _, rfl, rfl⟩
      case round =>
        obtain ⟨k, hk, rfl, rfl⟩ := hrel
        by_cases hlt : k < cs.length
        · obtain ⟨bb, off, rfl, hbl, hc⟩ := HC0.out.addr (by omega)
          obtain ⟨x, hxk⟩ : ∃ x, cs[k]? = some x := ⟨cs[k], by simp [hlt]⟩
          obtain ⟨a', c', hcell, hin⟩ := hc k x hxk
          have hxl := hin.len
          have HX := Lib.hid hxk
          have HBD := Lib.hid (M.vars_bd (cs.take k))
          have hne : (M.tru x m != M.tru x m) = false := by simp
          have HIN := Lib.hid hin
          clear hc hxk hin
          go_wp2_with (first | (go_at_call 36; refine (true_any _ _ _ _ _ _ _ HIN.out HM0.out).mono ?_; rintro e w' ⟨rfl, rfl⟩) | (go_at_call 37; refine (rtrue_any _ _ _ _ _ _ _ HIN.out HM0.out).mono ?_; rintro e w' ⟨rfl, rfl⟩))
          go_loop [5, 9, 34] (fun g _ i => ∃ t : Nat, t ≤ x.length ∧ i = .int .i64 t ∧ g = .int .i64 (M.varsC (M.vars (cs.take k)) (x.take t))) (fun _ _ i => x.length - (intOf i).toNat)
          case atStart => exact ⟨0, Nat.zero_le _, rfl, rfl⟩
          case round =>
            obtain ⟨t, ht, rfl, rfl⟩ := hrel
            by_cases htl : t < x.length
            · obtain ⟨b2, off2, rfl, hbl2, hc2⟩ := HIN.out.addr (by omega)
              obtain ⟨z, hzt⟩ : ∃ z, x[t]? = some z := ⟨x[t], by simp [htl]⟩
              have hcell2 := hc2 t z hzt
              have HZ := Lib.hid hzt
              have hb2 := M.varsC_bd HBD.out (x.take t)
              have hb3 := hb2.1
              have hb4 := hb2.2
              clear hc2 hzt hb2
              cases hl : M.isLit z
              · go_wp2_with (go_at_call 38; refine (is_any _ _).mono ?_; rintro e w' ⟨rfl, rfl⟩)
                go_round
                case rel => exact ⟨t + 1, by omega, by go_num, by rw [M.varsC_snoc HZ.out, hl]; rfl⟩
                case measure => simp [intOf]; omega
              · have h2 := (M.isLit_iff z).1 hl
                have hlo : -20000 ≤ z := h2.2.1
                have hhi : z ≤ 20000 := h2.2.2
                clear h2
                have hs := M.varsC_snoc (g := M.vars (cs.take k)) HZ.out
                rw [hl, if_pos rfl, M.vr_max] at hs
                have HS := Lib.hid hs
                clear hs
                go_wp2_with (go_at_call 38; refine (is_any _ _).mono ?_; rintro e w' ⟨rfl, rfl⟩)
                all_goals
                  go_round
                  case rel =>
                    refine ⟨t + 1, by omega, by go_num, ?_⟩
                    rw [HS.out]
                    first | done | (congr 1; omega)
                  case measure => simp [intOf]; omega
            · go_wp2
              go_round
              case rel => exact ⟨k + 1, by omega, by go_num, by rw [M.vars_take HX.out, List.take_of_length_le (show x.length ≤ t by omega)]⟩
              case measure => simp [intOf]; omega
        · have hfull : cs.take k = cs := List.take_of_length_le (by omega)
          rw [hfull]
          have e1 : (M.allTrue cs m == M.allTrue cs m) = true := by simp
          have e2 : (M.vars cs == M.vars cs) = true := by simp
          clear hfull
          go_wp2_with (first | (go_at_call 39; refine (lall_any _ _ _ _ _ _ _ HC0.out HM0.out).mono ?_; rintro e w' ⟨rfl, rfl⟩) | (go_at_call 22; refine (rall_any _ _ _ _ _ _ _ HC0.out HM0.out).mono ?_; rintro e w' ⟨rfl, rfl⟩) | (go_at_call 40; refine (lvars_any _ _ _ _ HC0.out).mono ?_; rintro e w' ⟨rfl, rfl⟩))
          go_ret
          exact ⟨rfl, HB0.out⟩
  · go_wp2
    go_ret
    exact ⟨rfl, HB0.out⟩
end Go.Proofs.YtdppmmimemmedaaDoor

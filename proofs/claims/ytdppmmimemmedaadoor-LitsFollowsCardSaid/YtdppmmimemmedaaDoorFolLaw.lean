/- The walk of haversacklaw14.LitsFollows. -/
import Derived.Test.YtdppmmimemmedaaDoorFew
import Derived.Test.YtdppmmimemmedaaDoorModels
namespace Go.Proofs.YtdppmmimemmedaaDoor
open Go.RowKit

theorem M.allHold_snoc {fr : List Int} {t : Nat} {z : Int} (h : fr[t]? = some z) (m : List Bool) : ((fr.take (t + 1)).all fun l => M.holds l m) = (((fr.take t).all fun l => M.holds l m) && M.holds z m) := by
  rw [List.take_add_one, h]; simp
set_option maxHeartbeats 4000000 in
set_option maxRecDepth 100000 in
theorem folLaw (hA : Alive14) (a : Option Addr) (c : Nat) (cs : List (List Int)) (b : Option Addr) (d : Nat) (fr : List Int) (w : World) (hz : Cls w a cs) (hf : Ints w b fr) :
    Calls Tryd.prog 8 #[.slice a cs.length c, .slice b fr.length d] w fun e w' => e = .returned (.bool true) ∧ Below w.heap.size w w' := by
  have hlen := hz.len
  have hfl := hf.len
  have HC := Lib.hid hz
  have HF := Lib.hid hf
  have HA := Lib.hid (hA w)
  clear hz hf hA
  go_enter Tryd.func8, Tryd.ntmps8
  go_wp2_with fail
  refine HA.out.mono ?_
  rintro e W0 ⟨rfl, hb0⟩
  have HB0 := Lib.hid hb0
  have HC0 := Lib.hid (HC.out.below hb0)
  have HF0 := Lib.hid (HF.out.below hb0)
  have HFEW := Lib.hid (few_any a c cs W0 HC0.out)
  clear hb0 HA HC HF
  go_wp2_with fail
  refine HFEW.out.mono ?_
  rintro e W0' ⟨b1, rfl, hfew, rfl⟩
  cases b1
  · go_wp2
    go_ret
    exact ⟨rfl, HB0.out⟩
  have hcs := (hfew rfl).1
  have HFEW2 := Lib.hid (few_any (some ⟨W0.heap.size, 0, none⟩) 1 [fr] (W0.alloc (.cells #[.slice b fr.length d] 58)) (Cls.one HF0.out d _))
  clear hfew HFEW
  go_wp2_with fail
  refine HFEW2.out.mono ?_
  rintro e W1 ⟨b2, rfl, _, hW1⟩
  have hb1 : Below W0.heap.size W0 W1 := by rw [← hW1]; exact below_alloc (Below.refl _ _) _
  have HB1 := Lib.hid (below_next HB0.out hb1)
  have HC1 := Lib.hid (HC0.out.below hb1)
  have HF1 := Lib.hid (HF0.out.below hb1)
  clear hW1 hb1 HFEW2
  cases b2
  · go_wp2
    go_ret
    exact ⟨rfl, HB1.out⟩
  have HP := Lib.hid (prop_any a c cs b d fr W1 HC1.out (by omega) HF1.out)
  go_wp2_with fail
  refine HP.out.mono ?_
  rintro e W2 ⟨l, ok, a2, c2, rfl, hres, h2, hb2⟩
  have HB2 := Lib.hid (below_next HB1.out hb2)
  have HC2 := Lib.hid (HC1.out.below hb2)
  have HF2 := Lib.hid (HF1.out.below hb2)
  have HRES := Lib.hid hres
  have HI2 := Lib.hid h2
  have hll := h2.len
  clear hres h2 hb2 HP HB1 HC1 HF1
  go_wp2
  go_loopw [32] (fun i wr => ∃ k : Nat, k ≤ 256 ∧ i = .int .i64 k ∧ Below W2.heap.size W2 wr) (fun i _ => 256 - (intOf i).toNat)
  case atStart => exact ⟨0, by omega, rfl, Below.refl _ _⟩
  case round =>
    obtain ⟨k, hk, rfl, hbr⟩ := hrel
    have HBR := Lib.hid hbr
    clear hbr
    by_cases hlt : k < 256
    · obtain ⟨wo, rfl⟩ : ∃ wo : World, wo = wr := ⟨_, rfl⟩
      go_wp2_with (at_make; refine wpList_make_Bools rfl _ _ rfl wo.heap.size 8 rfl rfl (by omega) (Nat.le_refl _) ?_; intro w1 hown hb1 hlt1; have HO1 := Lib.hid hown; have HB1 := Lib.hid hb1; clear hown hb1)
      go_loopw [38] (fun i wr => ∃ j : Nat, j ≤ 8 ∧ i = .int .i64 j ∧ OwnB wr wo.heap.size (some ⟨wo.heap.size, 0, none⟩) 8 (M.modelTo 8 k j) ∧ Below wo.heap.size wo wr) (fun i _ => 8 - (intOf i).toNat)
      case atStart => exact ⟨0, Nat.zero_le _, rfl, by simpa [M.modelTo] using HO1.out, HB1.out⟩
      case round =>
        obtain ⟨j, hj, rfl, ho2, hb2⟩ := hrel
        have HO2 := Lib.hid ho2
        have HBO := Lib.hid hb2
        clear ho2 hb2
        by_cases hjl : j < 8
        · have hfz := HO2.out.frozen j
          obtain ⟨y, hy⟩ : ∃ y, (M.modelTo 8 k j)[j]? = some y := ⟨_, List.getElem?_eq_getElem (by rw [M.modelTo_length _ _ _ hj]; exact hjl)⟩
          have hcell := HO2.out.cell hy
          clear hy
          go_wp2
          go_roundw
          case rel =>
            rw [bit_at k j (by omega)]
            exact ⟨j + 1, by omega, by go_num, by rw [← M.modelTo_set 8 k j hjl]; exact HO2.out.stored j _, HBO.out.setCell (Nat.le_refl _) _⟩
          case measure => simp [intOf]; omega
        · obtain ⟨m, hm⟩ : ∃ m, m = M.modelTo 8 k j := ⟨_, rfl⟩
          have hml : m.length = 8 := by rw [hm]; exact M.modelTo_length 8 k j hj
          have hM : Bools wr (some ⟨wo.heap.size, 0, none⟩) m := by rw [hm]; exact HO2.out.bools (by rw [← hm, hml]; omega)
          have HM := Lib.hid hM
          have hbw := below_next HBR.out HBO.out
          have HBW := Lib.hid hbw
          have HCR := Lib.hid (HC2.out.below hbw)
          have HFR := Lib.hid (HF2.out.below hbw)
          have HALL := Lib.hid (lall_any a c cs (some ⟨wo.heap.size, 0, none⟩) 8 m wr HCR.out hM)
          rw [hml] at HALL
          obtain ⟨wm, hwm⟩ : ∃ wm, wm = wr := ⟨_, rfl⟩
          subst hwm
          clear hm hM hbw HO2 HO1 HB1
          go_wp2_with (go_at_call 39; refine HALL.out.mono ?_; rintro e w' ⟨rfl, rfl⟩)
          clear HALL
          go_loopw [10, 55] (fun av i wr => ∃ t : Nat, t ≤ fr.length ∧ i = .int .i64 t ∧ av = .bool (M.allTrue cs m && (fr.take t).all fun l => M.holds l m) ∧ Below wm.heap.size wm wr) (fun _ i _ => fr.length - (intOf i).toNat)
          case atStart => exact ⟨0, Nat.zero_le _, rfl, by simp, Below.refl _ _⟩
          case round =>
            obtain ⟨t, ht, rfl, rfl, hbt⟩ := hrel
            have HBT := Lib.hid hbt
            have HFT := Lib.hid (HFR.out.below hbt)
            have HMT := Lib.hid (HM.out.below hbt)
            clear hbt
            by_cases htl : t < fr.length
            · obtain ⟨b5, off5, rfl, hb5, hc5⟩ := HFT.out.addr (by omega)
              obtain ⟨z, hzt⟩ : ∃ z, fr[t]? = some z := ⟨fr[t], by simp [htl]⟩
              have hcz := hc5 t z hzt
              have hz64 := HFT.out.wf z (List.mem_of_getElem? hzt)
              have HTR := Lib.hid (true_any (some ⟨wr.heap.size, 0, none⟩) 1 [z] (some ⟨wo.heap.size, 0, none⟩) 8 m (wr.alloc (.cells #[.int .i64 z] 3)) (Ints.one wr z hz64 _) (HMT.out.below (below_alloc (Below.refl _ _) _)))
              rw [hml, M.tru_one] at HTR
              have HZT := Lib.hid hzt
              obtain ⟨av, hav⟩ : ∃ av, av = (M.allTrue cs m && (fr.take t).all fun l => M.holds l m) := ⟨_, rfl⟩
              rw [← hav]
              have HAV := Lib.hid hav
              clear hc5 hzt hz64 hav
              cases av
              · go_wp2
                go_roundw
                case rel => exact ⟨t + 1, by omega, by go_num, by rw [M.allHold_snoc HZT.out, ← Bool.and_assoc, ← HAV.out]; rfl, HBT.out⟩
                case measure => simp [intOf]; omega
              · go_wp2_with (go_at_call 36; refine HTR.out.mono ?_; rintro e w' ⟨rfl, hw'⟩; have HB7 := Lib.hid (show Below wm.heap.size wm w' by rw [← hw']; exact below_alloc HBT.out _); clear hw')
                go_roundw
                case rel => exact ⟨t + 1, by omega, by go_num, by rw [M.allHold_snoc HZT.out, ← Bool.and_assoc, ← HAV.out]; rfl, HB7.out⟩
                case measure => simp [intOf]; omega
            · obtain rfl : t = fr.length := by omega
              rw [List.take_length]
              cases hav : (M.allTrue cs m && fr.all fun l => M.holds l m)
              · go_wp2
                go_roundw
                case rel => exact ⟨k + 1, by omega, by go_num, below_next HBW.out HBT.out⟩
                case measure => simp [intOf]; omega
              · obtain ⟨e1, e2⟩ := Bool.and_eq_true_iff.1 hav
                have hfr : ∀ l ∈ fr, M.isLit l = true → M.holds l m = true := fun l hl _ => List.all_eq_true.1 e2 l hl
                have hok : ok = true ∧ ∀ x ∈ l, M.holds x m = true := by
                  rcases HRES.out with ⟨h1, _, h2, _⟩ | ⟨_, _, h3⟩
                  · exact ⟨h1, fun x hx => M.der_true e1 hfr ((h2 x).1 hx)⟩
                  · exact (M.conf_false e1 hfr h3).elim
                obtain ⟨rfl, hall⟩ := hok
                have HALL := Lib.hid hall
                have HBX := Lib.hid (below_next HBW.out HBT.out)
                have HIL := Lib.hid (HI2.out.below (below_next HBW.out HBT.out))
                obtain ⟨wz, hwz⟩ : ∃ wz, wz = wr := ⟨_, rfl⟩
                subst hwz
                clear hav e1 e2 hfr hall
                go_wp2
                go_loopw [73] (fun i wr => ∃ t : Nat, t ≤ l.length ∧ i = .int .i64 t ∧ Below wz.heap.size wz wr) (fun i _ => l.length - (intOf i).toNat)
                case atStart => exact ⟨0, Nat.zero_le _, rfl, Below.refl _ _⟩
                case round =>
                  obtain ⟨t, ht, rfl, hbt⟩ := hrel
                  have HBS := Lib.hid hbt
                  have HLS := Lib.hid (HIL.out.below hbt)
                  have HMS := Lib.hid (HMT.out.below hbt)
                  clear hbt
                  by_cases htl : t < l.length
                  · obtain ⟨b5, off5, rfl, hb5, hc5⟩ := HLS.out.addr (by omega)
                    obtain ⟨z, hzt⟩ : ∃ z, l[t]? = some z := ⟨l[t], by simp [htl]⟩
                    have hcz := hc5 t z hzt
                    have hz64 := HLS.out.wf z (List.mem_of_getElem? hzt)
                    have HTR := Lib.hid (true_any (some ⟨wr.heap.size, 0, none⟩) 1 [z] (some ⟨wo.heap.size, 0, none⟩) 8 m (wr.alloc (.cells #[.int .i64 z] 3)) (Ints.one wr z hz64 _) (HMS.out.below (below_alloc (Below.refl _ _) _)))
                    rw [hml, M.tru_one, HALL.out z (List.mem_of_getElem? hzt)] at HTR
                    clear hc5 hzt hz64
                    go_wp2_with (go_at_call 36; refine HTR.out.mono ?_; rintro e w' ⟨rfl, hw'⟩; have HB7 := Lib.hid (show Below wz.heap.size wz w' by rw [← hw']; exact below_alloc HBS.out _); clear hw')
                    go_roundw
                    case rel => exact ⟨t + 1, by omega, by go_num, HB7.out⟩
                    case measure => simp [intOf]; omega
                  · go_wp2
                    go_roundw
                    case rel => exact ⟨k + 1, by omega, by go_num, below_next HBX.out HBS.out⟩
                    case measure => simp [intOf]; omega
    · go_wp2
      go_ret
      exact ⟨rfl, below_next HB2.out HBR.out⟩
end Go.Proofs.YtdppmmimemmedaaDoor

/- The law ReduceWhole, walked. -/
import Derived.Test.YtcbboomnonnofaaDoorQAlive13
namespace Go.Proofs.YtcbboomnonnofaaDoor
open Go.RowKit
open Q (It Ver Tm Sp Rc Dm)

set_option maxHeartbeats 8000000 in
set_option maxRecDepth 100000 in
theorem wholeLaw (ad : Addr) (a b ro : Option Addr) (c e rc : Nat) (l : List Rc) (on : List Bool) (roots : List Sp) (w : World) (hR : RIn w a b l on) (hRo : Sl RSp 5 w ro roots) (hE : ErrR w ad) :
    Calls Tryd.prog 9 #[.slice a l.length c, .slice b on.length e, .slice ro roots.length rc] w fun e w' => e = .returned (.bool true) ∧ Below w.heap.size w w' := by
  have HR := Lib.hid hR
  have HO := Lib.hid hRo
  have HE := Lib.hid hE
  have hl1 := hR.recs.len
  have hl2 := hR.bools.len
  have hl3 := hRo.len
  clear hR hRo hE
  go_enter Tryd.func9, Tryd.ntmps9
  go_wp2_with fail
  refine (alive13 ad _ HE.out).mono ?_
  rintro e w1 ⟨rfl, hb⟩
  have HBa := Lib.hid hb
  clear hb
  go_wp2_with fail
  (with_reducible refine (bigAll_any a c l 40 _ (HR.out.below HBa.out).recs (by omega)).mono ?_)
  rintro e w2 ⟨q, rfl, hq, hb⟩
  have HBb := Lib.hid (fin HBa.out hb)
  clear hb
  cases q
  case true =>
    go_wp2
    go_ret
    exact ⟨rfl, HBb.out⟩
  have h40 := hq rfl
  clear hq
  by_cases h1 : on.length = l.length
  case neg =>
    have n1 : ((on.length : Int) != (l.length : Int)) = true := by rw [bne_iff_ne]; omega
    go_wp2
    go_ret
    exact ⟨rfl, HBb.out⟩
  have n1 : ((on.length : Int) != (l.length : Int)) = false := by simp [h1]
  have HL1 := Lib.hid h1
  clear h1
  go_wp2_with fail
  (with_reducible refine (bigS_any ro rc roots _ (HO.out.below stays_RSp HBb.out)).mono ?_)
  rintro e w3 ⟨q, rfl, _, hb⟩
  have HBc := Lib.hid (fin HBb.out hb)
  clear hb
  cases q
  case true =>
    go_wp2
    go_ret
    exact ⟨rfl, HBc.out⟩
  go_wp2_with (at_make; refine wpList_make_Bools rfl (.tmp 32) (.tmp 32) rfl w3.heap.size l.length rfl rfl (by omega) (Nat.le_refl _) ?_; intro w4 hown hb4 hlt4; have HO4 := Lib.hid hown; have HB4 := Lib.hid hb4; clear hown hb4)
  clear n1
  go_loopw [8, 36] (fun _ i wr => ∃ k : Nat, k ≤ l.length ∧ i = .int .i64 k ∧ OwnB wr w3.heap.size (some ⟨w3.heap.size, 0, none⟩) l.length (allAt l.length k) ∧ Below w3.heap.size w3 wr) (fun _ i _ => l.length - (intOf i).toNat)
  case atStart => exact ⟨0, by omega, rfl, by rw [allAt_zero]; exact HO4.out, HB4.out⟩
  case round =>
    obtain ⟨k, hk, rfl, hown, hbr⟩ := hrel
    have HOB := Lib.hid hown
    have HB := Lib.hid hbr
    clear hown hbr
    by_cases hlt : k < l.length
    · have hfz := HOB.out.frozen k
      have hcell := HOB.out.cell (allAt_at hlt)
      go_wp2
      go_roundw
      case rel => exact ⟨k + 1, by omega, by go_num, (by rw [← allAt_set hlt]; exact HOB.out.stored k true), HB.out.setCell (Nat.le_refl _) _⟩
      case measure => simp [intOf]; omega
    · have hke : k = l.length := by omega
      have hall : OwnB wr w3.heap.size (some ⟨w3.heap.size, 0, none⟩) l.length (List.replicate l.length true) := by rw [← allAt_full, ← hke]; rw [← hke] at HOB; exact HOB.out
      have HAL := Lib.hid (hall.bools (by simp; omega))
      have HBd := Lib.hid (fin HBc.out HB.out)
      clear hall hke
      have hkd := keep_ok ad a (some ⟨w3.heap.size, 0, none⟩) c l.length l (List.replicate l.length true) wr ⟨(HR.out.below HBd.out).recs, HAL.out⟩ (by simp) (by omega) (HE.out.below HBd.out)
      rw [List.length_replicate] at hkd
      have HKD := Lib.hid hkd
      clear hkd
      go_wp2_with fail
      refine HKD.out.mono ?_
      rintro e w5 ⟨k1, ka1, kc1, rfl, hk1, hB1, hb⟩
      have HBe := Lib.hid (fin HBd.out hb)
      have HK1 := Lib.hid hk1
      have HA1 := Lib.hid hB1
      clear hb hk1 hB1 HKD
      go_wp2_with fail
      refine (whole_any ad a ka1 c kc1 l k1 _ ⟨(HR.out.below HBe.out).recs, HA1.out⟩ (HE.out.below HBe.out)).mono ?_
      rintro e w6 ⟨rfl, hb⟩
      rw [(wholeB_iff HK1.out.len).2 HK1.out.whole]
      have HBf := Lib.hid (fin HBe.out hb)
      have HA1f := Lib.hid (HA1.out.below hb)
      clear hb
      go_wp2_with fail
      (with_reducible refine (keep_ok ad a b c e l on _ (HR.out.below HBf.out) HL1.out (by omega) (HE.out.below HBf.out)).mono ?_)
      rintro e w7 ⟨k2, ka2, kc2, rfl, hk2, hB2, hb⟩
      have HBg := Lib.hid (fin HBf.out hb)
      have HK2 := Lib.hid hk2
      have HA2 := Lib.hid hB2
      have HA1g := Lib.hid (HA1f.out.below hb)
      clear hb hk2 hB2
      go_wp2_with fail
      (with_reducible refine (reach_ok ad a ka2 ro c kc2 rc l k2 roots _ ⟨(HR.out.below HBg.out).recs, HA2.out⟩ (HO.out.below stays_RSp HBg.out) HK2.out.len (by omega) (HE.out.below HBg.out)).mono ?_)
      rintro e w8 ⟨r3, ka3, kc3, rfl, hr3, hB3, hb⟩
      have HBh := Lib.hid (fin HBg.out hb)
      have HR3 := Lib.hid hr3
      have HA3 := Lib.hid hB3
      have HA1h := Lib.hid (HA1g.out.below hb)
      have HA2h := Lib.hid (HA2.out.below hb)
      clear hb hr3 hB3
      go_wp2_with fail
      refine (whole_any ad a ka2 c kc2 l k2 _ ⟨(HR.out.below HBh.out).recs, HA2h.out⟩ (HE.out.below HBh.out)).mono ?_
      rintro e w9 ⟨rfl, hb⟩
      rw [(wholeB_iff HK2.out.len).2 HK2.out.whole]
      have HBi := Lib.hid (fin HBh.out hb)
      have HA1i := Lib.hid (HA1h.out.below hb)
      have HA2i := Lib.hid (HA2h.out.below hb)
      have HA3i := Lib.hid (HA3.out.below hb)
      clear hb
      go_wp2_with fail
      refine (whole_any ad a ka3 c kc3 l r3 _ ⟨(HR.out.below HBi.out).recs, HA3i.out⟩ (HE.out.below HBi.out)).mono ?_
      rintro e w10 ⟨rfl, hb⟩
      rw [(wholeB_iff HR3.out.len).2 (R.reach_whole HK2.out.whole HR3.out)]
      have HBj := Lib.hid (fin HBi.out hb)
      have HA1j := Lib.hid (HA1i.out.below hb)
      have HA2j := Lib.hid (HA2i.out.below hb)
      have HA3j := Lib.hid (HA3i.out.below hb)
      clear hb
      have hs1 : R.Sub k2 k1 := R.kept_mono (fun i hi => R.on_all.2 (by have := hi.lt; rw [HL1.out] at this; exact this)) HK2.out HK1.out
      have HS1 := Lib.hid hs1
      have HS2 := Lib.hid HK2.out.sub
      have HS3 := Lib.hid (R.reach_sub HR3.out)
      have HLa := Lib.hid HK1.out.len
      have HLb := Lib.hid HK2.out.len
      have HLc := Lib.hid HR3.out.len
      clear hs1
      go_wp2
      go_loopw [15, 90] (fun _ i wr => ∃ j : Nat, j ≤ l.length ∧ i = .int .i64 j ∧ Below w10.heap.size w10 wr) (fun _ i _ => l.length - (intOf i).toNat)
      case atStart => exact ⟨0, by omega, rfl, Below.refl _ _⟩
      case round =>
        obtain ⟨j, hj, rfl, hbr⟩ := hrel
        have HBr := Lib.hid hbr
        clear hbr
        have hla := HA1j.out.len
        have hlb := HA2j.out.len
        have hlc := HA3j.out.len
        by_cases hlt2 : j < l.length
        · have hj1 : j < k1.length := by have := HLa.out; omega
          have hj2 : j < k2.length := by have := HLb.out; omega
          have hj3 : j < r3.length := by have := HLc.out; omega
          have hj4 : j < on.length := by have := HL1.out; omega
          obtain ⟨x, hx⟩ : ∃ x, k2[j]? = some x := ⟨k2[j], by simp [hj2]⟩
          obtain ⟨y, hy⟩ : ∃ x, r3[j]? = some x := ⟨r3[j], by simp [hj3]⟩
          obtain ⟨b5, o5, rfl, hbl5, hc5⟩ := (HA2j.out.below HBr.out).addr (by omega)
          obtain ⟨b6, o6, rfl, hbl6, hc6⟩ := (HA3j.out.below HBr.out).addr (by omega)
          have d5 := hc5 j x hx
          have d6 := hc6 j y hy
          have HX := Lib.hid hx
          have HY := Lib.hid hy
          clear hc5 hc6 hx hy
          cases x
          · cases y
            case true =>
              have := HS3.out j HY.out
              unfold R.On at this
              rw [HX.out] at this
              cases this
            go_wp2
            go_roundw
            case rel => exact ⟨j + 1, by omega, by go_num, HBr.out⟩
            case measure => simp [intOf]; omega
          · have hy2 : k1[j]? = some true := HS1.out j HX.out
            have hy3 : on[j]? = some true := HS2.out j HX.out
            obtain ⟨b7, o7, rfl, hbl7, hc7⟩ := (HA1j.out.below HBr.out).addr (by omega)
            obtain ⟨b8, o8, rfl, hbl8, hc8⟩ := ((HR.out.below HBj.out).bools.below HBr.out).addr (by omega)
            have d7 := hc7 j _ hy2
            have d8 := hc8 j _ hy3
            clear hc7 hc8 hy2 hy3
            cases y
            all_goals
              go_wp2
              go_roundw
              case rel => exact ⟨j + 1, by omega, by go_num, HBr.out⟩
              case measure => simp [intOf]; omega
        · go_wp2_with fail
          refine (whole_any ad a b c e l on _ ((HR.out.below HBj.out).below HBr.out) ((HE.out.below HBj.out).below HBr.out)).mono ?_
          rintro e w11 ⟨rfl, hb⟩
          have HBk := Lib.hid (fin (fin HBj.out HBr.out) hb)
          have HA2k := Lib.hid ((HA2j.out.below HBr.out).below hb)
          clear hb
          cases hwb : Q.wholeB l on
          · clear hwb
            go_wp2
            go_ret
            exact ⟨rfl, HBk.out⟩
          · have hkk : k2 = on := R.kept_self HL1.out ((wholeB_iff HL1.out).1 hwb) HK2.out
            have HKK := Lib.hid hkk
            clear hwb hkk
            go_wp2_with fail
            refine (sameBools_any ka2 b kc2 e k2 on _ HA2k.out (HR.out.below HBk.out).bools).mono ?_
            rintro e w12 ⟨rfl, hb⟩
            rw [show Q.eqB k2 on = true by unfold Q.eqB; rw [HKK.out]; simp]
            have HBl := Lib.hid (fin HBk.out hb)
            clear hb
            go_wp2
            go_ret
            exact ⟨rfl, HBl.out⟩
end Go.Proofs.YtcbboomnonnofaaDoor

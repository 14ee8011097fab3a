/- The law ReduceMore, walked. -/
import Derived.Test.YtcbboomnonnofaaDoorQAlive13
namespace Go.Proofs.YtcbboomnonnofaaDoor
open Go.RowKit
open Q (It Ver Tm Sp Rc Dm)

set_option maxHeartbeats 8000000 in
set_option maxRecDepth 100000 in
theorem moreLaw (ad : Addr) (a b ro : Option Addr) (c e rc : Nat) (l : List Rc) (on : List Bool) (roots : List Sp) (w : World) (hR : RIn w a b l on) (hRo : Sl RSp 5 w ro roots) (hE : ErrR w ad) :
    Calls Tryd.prog 8 #[.slice a l.length c, .slice b on.length e, .slice ro roots.length rc] w fun e w' => e = .returned (.bool true) ∧ Below w.heap.size w w' := by
  have HR := Lib.hid hR
  have HO := Lib.hid hRo
  have HE := Lib.hid hE
  have hl1 := hR.recs.len
  have hl2 := hR.bools.len
  have hl3 := hRo.len
  clear hR hRo hE
  go_enter Tryd.func8, Tryd.ntmps8
  go_wp2_with fail
  refine (alive13 ad _ HE.out).mono ?_
  rintro e w1 ⟨rfl, hb⟩
  have HBa := Lib.hid hb
  clear hb
  go_wp2_with fail
  (with_reducible refine (bigAll_any a c l 40 _ (HR.out.below HBa.out).recs (by omega)).mono ?_)
  rintro e w2 ⟨q, rfl, hq, hb⟩
  have HBb := Lib.hid (fin HBa.out hb)
  clear hb
  cases q
  case true =>
    go_wp2
    go_ret
    exact ⟨rfl, HBb.out⟩
  have h40 := hq rfl
  clear hq
  by_cases h1 : on.length = l.length
  case neg =>
    have n1 : ((on.length : Int) != (l.length : Int)) = true := by rw [bne_iff_ne]; omega
    go_wp2
    go_ret
    exact ⟨rfl, HBb.out⟩
  have n1 : ((on.length : Int) != (l.length : Int)) = false := by simp [h1]
  have HL1 := Lib.hid h1
  clear h1
  go_wp2_with fail
  (with_reducible refine (bigS_any ro rc roots _ (HO.out.below stays_RSp HBb.out)).mono ?_)
  rintro e w3 ⟨q, rfl, _, hb⟩
  have HBc := Lib.hid (fin HBb.out hb)
  clear hb
  cases q
  case true =>
    go_wp2
    go_ret
    exact ⟨rfl, HBc.out⟩
  go_wp2_with (at_make; refine wpList_make_Bools rfl (.tmp 32) (.tmp 32) rfl w3.heap.size l.length rfl rfl (by omega) (Nat.le_refl _) ?_; intro w4 hown hb4 hlt4; have HO4 := Lib.hid hown; have HB4 := Lib.hid hb4; clear hown hb4)
  clear n1
  go_loopw [8, 36] (fun _ i wr => ∃ k : Nat, k ≤ l.length ∧ i = .int .i64 k ∧ OwnB wr w3.heap.size (some ⟨w3.heap.size, 0, none⟩) l.length (allAt l.length k) ∧ Below w3.heap.size w3 wr) (fun _ i _ => l.length - (intOf i).toNat)
  case atStart => exact ⟨0, by omega, rfl, by rw [allAt_zero]; exact HO4.out, HB4.out⟩
  case round =>
    obtain ⟨k, hk, rfl, hown, hbr⟩ := hrel
    have HOB := Lib.hid hown
    have HB := Lib.hid hbr
    clear hown hbr
    by_cases hlt : k < l.length
    · have hfz := HOB.out.frozen k
      have hcell := HOB.out.cell (allAt_at hlt)
      go_wp2
      go_roundw
      case rel => exact ⟨k + 1, by omega, by go_num, (by rw [← allAt_set hlt]; exact HOB.out.stored k true), HB.out.setCell (Nat.le_refl _) _⟩
      case measure => simp [intOf]; omega
    · have hke : k = l.length := by omega
      have hall : OwnB wr w3.heap.size (some ⟨w3.heap.size, 0, none⟩) l.length (List.replicate l.length true) := by rw [← allAt_full, ← hke]; rw [← hke] at HOB; exact HOB.out
      have HAL := Lib.hid (hall.bools (by simp; omega))
      have HBd := Lib.hid (fin HBc.out HB.out)
      clear hall hke
      go_wp2_with fail
      (with_reducible refine (reduce_ok ad a b ro c e rc l on roots _ (HR.out.below HBd.out) (HO.out.below stays_RSp HBd.out) HL1.out (by omega) (HE.out.below HBd.out)).mono ?_)
      rintro e w5 ⟨k1, r1, ra1, rc1, rfl, hk1, hr1, hB1, hb⟩
      have HBe := Lib.hid (fin HBd.out hb)
      have HK1 := Lib.hid hk1
      have HR1 := Lib.hid hr1
      have HA1 := Lib.hid hB1
      have HALe := Lib.hid (HAL.out.below hb)
      clear hb hk1 hr1 hB1
      have hrd2 := reduce_ok ad a (some ⟨w3.heap.size, 0, none⟩) ro c l.length rc l (List.replicate l.length true) roots w5 ⟨(HR.out.below HBe.out).recs, HALe.out⟩ (HO.out.below stays_RSp HBe.out) (by simp) (by omega) (HE.out.below HBe.out)
      rw [List.length_replicate] at hrd2
      have HRD2 := Lib.hid hrd2
      clear hrd2
      go_wp2_with fail
      refine HRD2.out.mono ?_
      rintro e w6 ⟨k2, r2, ra2, rc2, rfl, hk2, hr2, hB2, hb⟩
      have HBf := Lib.hid (fin HBe.out hb)
      have HK2 := Lib.hid hk2
      have HR2 := Lib.hid hr2
      have HA2 := Lib.hid hB2
      have HALf := Lib.hid (HALe.out.below hb)
      have HA1f := Lib.hid (HA1.out.below hb)
      clear hb hk2 hr2 hB2 HRD2
      have hrd3 := reach_ok ad a (some ⟨w3.heap.size, 0, none⟩) none c l.length 0 l (List.replicate l.length true) [] w6 ⟨(HR.out.below HBf.out).recs, HALf.out⟩ sl_nil (by simp) (by omega) (HE.out.below HBf.out)
      rw [List.length_replicate] at hrd3
      have HRD3 := Lib.hid hrd3
      clear hrd3
      go_wp2_with fail
      refine HRD3.out.mono ?_
      rintro e w7 ⟨r3, ra3, rc3, rfl, hr3, hB3, hb⟩
      have HBg := Lib.hid (fin HBf.out hb)
      have HA1g := Lib.hid (HA1f.out.below hb)
      have HA2g := Lib.hid (HA2.out.below hb)
      have HALg := Lib.hid (HALf.out.below hb)
      have hc3 : R.count r3 = 0 := R.count_none (R.reach_none hr3)
      have HA3 := Lib.hid hB3
      have hl4 := HR1.out.len
      have hl5 := HR2.out.len
      have hsub : R.Sub r1 r2 := R.reach_mono (R.kept_mono (fun i hi => R.on_all.2 (by have := hi.lt; rw [HL1.out] at this; exact this)) HK1.out HK2.out) (fun s hs => hs) HR1.out HR2.out
      have hson : R.Sub r1 on := (R.reach_sub HR1.out).trans HK1.out.sub
      have HSUB := Lib.hid hsub
      have HSON := Lib.hid hson
      have HL4 := Lib.hid hl4
      have HL5 := Lib.hid hl5
      clear hb hr3 hB3 HRD3 hsub hson hl4 hl5
      go_wp2_with fail
      refine (count_any ra3 rc3 r3 _ HA3.out).mono ?_
      rintro e w8 ⟨rfl, rfl⟩
      rw [hc3]
      clear hc3
      go_wp2
      go_loopw [15, 80] (fun _ i wr => ∃ j : Nat, j ≤ r1.length ∧ i = .int .i64 j ∧ Below w7.heap.size w7 wr) (fun _ i _ => r1.length - (intOf i).toNat)
      case atStart => exact ⟨0, by omega, rfl, Below.refl _ _⟩
      case round =>
        obtain ⟨j, hj, rfl, hbr⟩ := hrel
        have HBr := Lib.hid hbr
        clear hbr
        have hlr1 := HA1g.out.len
        by_cases hlt2 : j < r1.length
        · have hj2 : j < r2.length := by have := HL4.out; have := HL5.out; omega
          have hj3 : j < on.length := by have := HL4.out; have := HL1.out; omega
          obtain ⟨x, hx⟩ : ∃ x, r1[j]? = some x := ⟨r1[j], by simp [hlt2]⟩
          obtain ⟨b5, o5, rfl, hbl5, hc5⟩ := (HA1g.out.below HBr.out).addr (by omega)
          have d5 := hc5 j x hx
          have HX := Lib.hid hx
          clear hc5 hx
          cases x
          · go_wp2
            go_roundw
            case rel => exact ⟨j + 1, by omega, by go_num, HBr.out⟩
            case measure => simp [intOf]; omega
          · have hy2 : r2[j]? = some true := HSUB.out j HX.out
            have hy3 : on[j]? = some true := HSON.out j HX.out
            obtain ⟨b6, o6, rfl, hbl6, hc6⟩ := (HA2g.out.below HBr.out).addr (by omega)
            obtain ⟨b7, o7, rfl, hbl7, hc7⟩ := ((HR.out.below HBg.out).bools.below HBr.out).addr (by omega)
            have d6 := hc6 j _ hy2
            have d7 := hc7 j _ hy3
            clear hc6 hc7 hy2 hy3
            go_wp2
            go_roundw
            case rel => exact ⟨j + 1, by omega, by go_num, HBr.out⟩
            case measure => simp [intOf]; omega
        · go_wp2_with fail
          refine (count_any ra1 rc1 r1 _ (HA1g.out.below HBr.out)).mono ?_
          rintro e w9 ⟨rfl, rfl⟩
          go_wp2_with fail
          refine (count_any ra2 rc2 r2 _ (HA2g.out.below HBr.out)).mono ?_
          rintro e w9 ⟨rfl, rfl⟩
          have hle : R.count r1 ≤ R.count r2 := R.count_le (by have := HL4.out; have := HL5.out; omega) HSUB.out
          have dle : decide ((R.count r1 : Int) ≤ (R.count r2 : Int)) = true := by simp; omega
          have hcal := count_any (some ⟨w3.heap.size, 0, none⟩) l.length (List.replicate l.length true) wr (HALg.out.below HBr.out)
          rw [List.length_replicate, R.count_all] at hcal
          have HCA := Lib.hid hcal
          clear hcal
          go_wp2_with fail
          refine HCA.out.mono ?_
          rintro e w9 ⟨rfl, rfl⟩
          have nn : ((l.length : Int) == (l.length : Int)) = true := by simp
          go_wp2
          go_ret
          exact ⟨rfl, fin HBg.out HBr.out⟩
end Go.Proofs.YtcbboomnonnofaaDoor

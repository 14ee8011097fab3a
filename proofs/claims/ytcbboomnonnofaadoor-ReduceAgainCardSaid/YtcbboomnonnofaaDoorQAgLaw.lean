/- The law ReduceAgain, walked. -/
import Derived.Test.YtcbboomnonnofaaDoorQAlive13
import Derived.Test.YtcbboomnonnofaaDoorQFix
import Derived.Deep.RegionHeld3
namespace Go.Proofs.YtcbboomnonnofaaDoor
open Go.RowKit
open Q (It Ver Tm Sp Rc Dm)

theorem Tryd.infoSp : (Tryd.prog.info? 35).map (fun i => (i.zero, i.size, i.bytes)) = some (some (.agg #[.string ⟨#[]⟩, .string ⟨#[]⟩, .slice none 0 0, .string ⟨#[]⟩, .int .i64 0]), 5, 80) := by kernel_rfl
theorem ones_RSp {w0 w : World} : ∀ us x, fixR RSp w0 w us x → ∀ u ∈ us, u.oneCell' = true := fun us x h u hu => by
  obtain ⟨r, h1, _, _, _, _, ⟨a, c, h2, _⟩⟩ := h
  simp at h2; subst h2
  rw [h1] at hu
  simp at hu
  rcases hu with rfl | rfl | rfl | rfl | rfl <;> rfl
/-- a spec in a box -/
structure SpBox (w : World) (B : Nat) (mo : Sp) (ra : Option Addr) (rd : Nat) : Prop where
  lt : B < w.heap.size
  c0 : w.cell? ⟨B, 0, none⟩ = some (.string mo.chan)
  c1 : w.cell? ⟨B, 1, none⟩ = some (.string mo.name)
  c2 : w.cell? ⟨B, 2, none⟩ = some (.slice ra mo.rows.length rd)
  c3 : w.cell? ⟨B, 3, none⟩ = some (.string mo.build)
  c4 : w.cell? ⟨B, 4, none⟩ = some (.int .i64 mo.num)
theorem SpBox.below {w w' : World} {B : Nat} {mo : Sp} {ra : Option Addr} {rd : Nat} (h : SpBox w B mo ra rd) (hb : Below w.heap.size w w') : SpBox w' B mo ra rd :=
  ⟨Nat.lt_of_lt_of_le h.lt hb.size, (hb.cell (p := ⟨B, 0, none⟩) h.lt).trans h.c0, (hb.cell (p := ⟨B, 1, none⟩) h.lt).trans h.c1, (hb.cell (p := ⟨B, 2, none⟩) h.lt).trans h.c2, (hb.cell (p := ⟨B, 3, none⟩) h.lt).trans h.c3, (hb.cell (p := ⟨B, 4, none⟩) h.lt).trans h.c4⟩
set_option maxHeartbeats 8000000 in
set_option maxRecDepth 100000 in
theorem againLaw (ad : Addr) (a ro ra : Option Addr) (c rc rd : Nat) (l : List Rc) (roots : List Sp) (mo : Sp) (w : World) (hR : Sl RRc 13 w a l) (hRo : Sl RSp 5 w ro roots) (hcap : roots.length ≤ rc ∧ (ro = none → rc = 0)) (hM : SpAt w mo ra rd) (hMR : RSp w [.string mo.chan, .string mo.name, .slice ra mo.rows.length rd, .string mo.build, .int .i64 mo.num] mo) (hE : ErrR w ad) :
    Calls Tryd.prog 7 #[.slice a l.length c, .slice ro roots.length rc, .agg #[.string mo.chan, .string mo.name, .slice ra mo.rows.length rd, .string mo.build, .int .i64 mo.num]] w fun e w' => e = .returned (.bool true) ∧ Below w.heap.size w w' := by
  have HR := Lib.hid hR
  have HO := Lib.hid hRo
  have HE := Lib.hid hE
  have HM := Lib.hid hM
  have HMR := Lib.hid hMR
  have HCAP := Lib.hid hcap
  have hl1 := hR.len
  have hl3 := hRo.len
  clear hR hRo hE hM hMR hcap
  have hX : SpBox (w.alloc (Obj.cells #[.string mo.chan, .string mo.name, .slice ra mo.rows.length rd, .string mo.build, .int .i64 mo.num] 35)) w.heap.size mo ra rd := ⟨by simp, by simp, by simp, by simp, by simp, by simp⟩
  have HX := Lib.hid hX
  clear hX
  go_enter Tryd.func7, Tryd.ntmps7
  go_wp2_with fail
  refine (alive13 ad _ (HE.out.below (b1 _ _))).mono ?_
  rintro e w1 ⟨rfl, hb⟩
  have HBa := Lib.hid (fin (b1 _ _) hb)
  have HXa := Lib.hid (HX.out.below hb)
  clear hb HX
  go_wp2_with fail
  (with_reducible refine (bigAll_any a c l 40 _ (HR.out.below stays_RRc HBa.out) (by omega)).mono ?_)
  rintro e w2 ⟨q, rfl, hq, hb⟩
  have HBb := Lib.hid (fin HBa.out hb)
  have HXb := Lib.hid (HXa.out.below hb)
  clear hb
  cases q
  case true =>
    go_wp2
    go_ret
    exact ⟨rfl, HBb.out⟩
  have h40 := hq rfl
  clear hq
  go_wp2_with fail
  (with_reducible refine (bigS_any ro rc roots _ (HO.out.below stays_RSp HBb.out)).mono ?_)
  rintro e w3 ⟨q, rfl, hq, hb⟩
  have HBc := Lib.hid (fin HBb.out hb)
  have HXc := Lib.hid (HXb.out.below hb)
  clear hb
  obtain ⟨zc, c0, c1, c2, c3, c4⟩ := HXc.out
  cases q
  case true =>
    go_wp2
    go_ret
    exact ⟨rfl, HBc.out⟩
  have h20 := hq rfl
  clear hq
  go_wp2_with fail
  (with_reducible refine (big09_any mo ra rd _ (HM.out.below HBc.out)).mono ?_)
  rintro e w4 ⟨q, rfl, hb⟩
  have HBd := Lib.hid (fin HBc.out hb)
  have HXd := Lib.hid (HXc.out.below hb)
  clear hb c0 c1 c2 c3 c4
  cases q
  case true =>
    go_wp2
    go_ret
    exact ⟨rfl, HBd.out⟩
  go_wp2_with (at_make; refine wpList_make_Bools rfl (.tmp 29) (.tmp 29) rfl w4.heap.size l.length rfl rfl (by omega) (Nat.le_refl _) ?_; intro w5 hown hb4 hlt4; have HO4 := Lib.hid hown; have HB4 := Lib.hid hb4; clear hown hb4)
  go_loopw [8, 33] (fun _ i wr => ∃ k : Nat, k ≤ l.length ∧ i = .int .i64 k ∧ OwnB wr w4.heap.size (some ⟨w4.heap.size, 0, none⟩) l.length (allAt l.length k) ∧ Below w4.heap.size w4 wr) (fun _ i _ => l.length - (intOf i).toNat)
  case atStart => exact ⟨0, by omega, rfl, by rw [allAt_zero]; exact HO4.out, HB4.out⟩
  case round =>
    obtain ⟨k, hk, rfl, hown, hbr⟩ := hrel
    have HOB := Lib.hid hown
    have HB := Lib.hid hbr
    clear hown hbr
    by_cases hlt : k < l.length
    · have hfz := HOB.out.frozen k
      have hcell := HOB.out.cell (allAt_at hlt)
      go_wp2
      go_roundw
      case rel => exact ⟨k + 1, by omega, by go_num, (by rw [← allAt_set hlt]; exact HOB.out.stored k true), HB.out.setCell (Nat.le_refl _) _⟩
      case measure => simp [intOf]; omega
    · have hke : k = l.length := by omega
      have hall : OwnB wr w4.heap.size (some ⟨w4.heap.size, 0, none⟩) l.length (List.replicate l.length true) := by rw [← allAt_full, ← hke]; rw [← hke] at HOB; exact HOB.out
      have HAL := Lib.hid (hall.bools (by simp; omega))
      have HBe := Lib.hid (fin HBd.out HB.out)
      have HXe := Lib.hid (HXd.out.below HB.out)
      clear hall hke
      have hrd2 := reduce_ok ad a (some ⟨w4.heap.size, 0, none⟩) ro c l.length rc l (List.replicate l.length true) roots wr ⟨HR.out.below stays_RRc HBe.out, HAL.out⟩ (HO.out.below stays_RSp HBe.out) (by simp) (by omega) (HE.out.below HBe.out)
      rw [List.length_replicate] at hrd2
      have HRD2 := Lib.hid hrd2
      clear hrd2
      go_wp2_with fail
      refine HRD2.out.mono ?_
      rintro e w5' ⟨k1, r1, ra1, rc1, rfl, hk1, hr1, hB1, hb⟩
      have HBf := Lib.hid (fin HBe.out hb)
      have HXf := Lib.hid (HXe.out.below hb)
      have HK1 := Lib.hid hk1
      have HR1 := Lib.hid hr1
      have HA1 := Lib.hid hB1
      have HALf := Lib.hid (HAL.out.below hb)
      clear hb hk1 hr1 hB1 HRD2
      go_wp2_with fail
      (with_reducible refine (reduce_ok ad a ra1 ro c rc1 rc l r1 roots _ ⟨HR.out.below stays_RRc HBf.out, HA1.out⟩ (HO.out.below stays_RSp HBf.out) HR1.out.len (by omega) (HE.out.below HBf.out)).mono ?_)
      rintro e w6 ⟨k2, r2, ra2, rc2, rfl, hk2, hr2, hB2, hb⟩
      have HBg := Lib.hid (fin HBf.out hb)
      have HXg := Lib.hid (HXf.out.below hb)
      have HK2 := Lib.hid hk2
      have HR2 := Lib.hid hr2
      have HA2 := Lib.hid hB2
      have HA1g := Lib.hid (HA1.out.below hb)
      have HALg := Lib.hid (HALf.out.below hb)
      clear hb hk2 hr2 hB2
      go_wp2
      have hS : ∀ w', Below w6.heap.size w6 w' → (fun w' => w'.cell? ⟨w.heap.size, 0, none⟩ = some (.string mo.chan) ∧ w'.cell? ⟨w.heap.size, 1, none⟩ = some (.string mo.name) ∧ w'.cell? ⟨w.heap.size, 2, none⟩ = some (.slice ra mo.rows.length rd) ∧ w'.cell? ⟨w.heap.size, 3, none⟩ = some (.string mo.build) ∧ w'.cell? ⟨w.heap.size, 4, none⟩ = some (.int .i64 mo.num)) w' := fun w' hb => by
        obtain ⟨_, f0, f1, f2, f3, f4⟩ := HXg.out.below hb
        exact ⟨f0, f1, f2, f3, f4⟩
      have HSS := Lib.hid hS
      have HOF := Lib.hid (fun (W : World) (hb : Below w6.heap.size w6 W) => (HO.out.below stays_RSp HBg.out).fix hb)
      have hmo : ∀ (W : World) (i : Nat) x us, [mo][i]? = some x → [[.string mo.chan, .string mo.name, .slice ra mo.rows.length rd, .string mo.build, .int .i64 mo.num]][i]? = some us → us.length = 5 ∧ fixR RSp w6 W us x := fun W i x us hx hu => by
        match i, hx, hu with
        | 0, hx, hu => simp at hx hu; subst hx hu; exact ⟨rfl, stays_RSp _ _ _ _ HBg.out HMR.out⟩
        | n + 1, hx, hu => simp at hx
      have hmade : ∀ (W : World) (n : Nat), W.heap.size = n → Sl (fixR RSp w6) 5 (W.alloc (Obj.cells #[.string mo.chan, .string mo.name, .slice ra mo.rows.length rd, .string mo.build, .int .i64 mo.num] 35)) (some ⟨n, 0, none⟩) [mo] := fun W n hn =>
        sl_made (R := fixR RSp w6) (k := 5) W [mo] [[.string mo.chan, .string mo.name, .slice ra mo.rows.length rd, .string mo.build, .int .i64 mo.num]] 35 n hn _ rfl rfl (by simp) (hmo _) (by simp)
      have HMC := Lib.hid (fun (W : World) => hmade W _ rfl)
      have HMB := Lib.hid (Sl.below (stays_fixR _ _) (hmade (w6.alloc (Obj.cells #[] 35)) (w6.heap.size + 1) (by simp)) ((Below.refl _ _).drew))
      have HMA := Lib.hid (Sl.below (stays_fixR _ _) (hmade w6 w6.heap.size rfl) ((b1 _ (Obj.cells #[] 35)).drew))
      obtain ⟨hz6, _⟩ := HXg.out
      clear hS hmo hmade
      go_region_held3 (fun w' => w'.cell? ⟨w.heap.size, 0, none⟩ = some (.string mo.chan) ∧ w'.cell? ⟨w.heap.size, 1, none⟩ = some (.string mo.name) ∧ w'.cell? ⟨w.heap.size, 2, none⟩ = some (.slice ra mo.rows.length rd) ∧ w'.cell? ⟨w.heap.size, 3, none⟩ = some (.string mo.build) ∧ w'.cell? ⟨w.heap.size, 4, none⟩ = some (.int .i64 mo.num))
        (first | exact HSS.out _ (Below.refl _ _) | exact HSS.out _ ((Below.refl _ _).drew) | exact HSS.out _ hbZ | exact HSS.out _ hb9 | exact HSS.out _ (hb7.alloc hb7.size _) | exact HSS.out _ hb7 | exact HSS.out _ ((Below.refl _ _).drew.alloc (Nat.le_refl _) _) | exact HSS.out _ (((Below.refl _ _).drew.alloc (Nat.le_refl _) _).alloc (by simp) _) | go_keep)
        (first
        | (refine step_append_flat (R := fixR RSp w6) Tryd.infoSp rfl (by decide) rfl (.tmp 57) (.tmp 58) 52 rfl Tryd.underlying52 w6.heap.size _ _ _ [] rfl (by first | exact (Own.made0' _ _ _ _ _ (by first | rfl | simp) (by omega)).below ((Below.refl _ _).drew) | exact (Own.made0' _ _ _ _ _ (by first | rfl | simp) (by omega)).below ((b1 _ _).drew)) _ _ _ roots rfl rfl (HOF.out _ (by first | exact (((Below.refl _ _).drew.alloc (Nat.le_refl _) _).alloc (by simp) _) | exact ((Below.refl _ _).drew.alloc (Nat.le_refl _) _))) ones_RSp HCAP.out.2 (by omega) (by omega) (by simp; try omega) ?_; intro a7 c7 w7 cells7 hown7 hF7 hg7 hB7; have hb7 : Below w6.heap.size w6 w7 := Below.trans (by first | exact (((Below.refl _ _).drew.alloc (Nat.le_refl _) _).alloc (by simp) _) | exact ((Below.refl _ _).drew.alloc (Nat.le_refl _) _)) hB7; (first | (have hD7 := Sl.growE hg7 (by omega) HMB.out) | (have hD7 := Sl.growE hg7 (by omega) HMA.out) | (have hD7 := True.intro)); simp only [Nat.zero_add, List.nil_append] at hown7; have HO7 := Lib.hid hown7; have HF7 := Lib.hid hF7; have HD7 := Lib.hid hD7; clear hown7 hF7 hg7 hB7 hD7)
        | (refine step_append_flat (R := fixR RSp w6) Tryd.infoSp rfl (by decide) rfl (.tmp 59) (.tmp 61) 52 rfl Tryd.underlying52 w6.heap.size _ _ _ cells7 rfl (by first | exact HO7.out | exact HO7.out.below (b1 _ _) | (simp only [Nat.zero_add]; exact HO7.out)) _ _ _ [mo] rfl rfl (by first | exact HD7.out | exact HMC.out _) ones_RSp (by intro e; cases e) (by omega) (by omega) (by have := hb7.size; simp; try omega) ?_; intro a9 c9 w9 cells9 hown9 hF9 hg9 hB9; (try simp only [Nat.zero_add] at hown9); have hb9 : Below w6.heap.size w6 w9 := Below.trans (by first | exact hb7 | exact hb7.alloc hb7.size _) hB9; have hsl9 : Sl RSp 5 w9 a9 (roots ++ [mo]) := Own.sl (by rw [List.length_append]; exact hown9) ((HF7.out.unfix stays_RSp hb9).append (hF9.unfix stays_RSp hb9)) (by simp; omega); have HSL9 := Lib.hid hsl9; clear hsl9 hown9 hF9 hg9 hB9)
        | (go_at_call 26; (have hrd := reduce_ok ad a (some ⟨w4.heap.size, 0, none⟩) a9 c l.length c9 l (List.replicate l.length true) (roots ++ [mo]) w9 ⟨HR.out.below stays_RRc (fin HBg.out hb9), HALg.out.below hb9⟩ HSL9.out (by simp) (by omega) (HE.out.below (fin HBg.out hb9))); simp only [List.length_replicate, List.length_append, List.length_singleton] at hrd; refine hrd.mono ?_; rintro e wZ ⟨k3, r3, ra3, rc3, rfl, hk3, hr3, hB3, hb⟩; have hbZ := fin hb9 hb; have HK3 := Lib.hid hk3; have HR3 := Lib.hid hr3; have HA3 := Lib.hid hB3; clear hb hrd hk3 hr3 hB3))
      all_goals
        have HBh := Lib.hid (fin HBg.out hbZ)
        have HA1h := Lib.hid (HA1g.out.below hbZ)
        have HA2h := Lib.hid (HA2.out.below hbZ)
        have e1 : k2 = r1 := R.kept_self HR1.out.len (R.reach_whole HK1.out.whole HR1.out) HK2.out
        have e2 : r2 = r1 := by
          have h2 := HR2.out
          rw [e1] at h2
          exact R.reach_again HR1.out h2
        have e3 : k3 = k1 := R.kept_unique HK3.out HK1.out
        have hs3 : R.Sub r1 r3 := by
          have h3 := HR3.out
          rw [e3] at h3
          exact R.reach_mono (R.Sub.refl _) (fun s hs => List.mem_append_left _ hs) HR1.out h3
        have HE2 := Lib.hid e2
        have HS3 := Lib.hid hs3
        have HL1 := Lib.hid HR1.out.len
        have HL3 := Lib.hid HR3.out.len
        clear e1 e2 e3 hs3 hbZ hb9 hb7
        go_wp2_with fail
        refine (sameBools_any ra1 ra2 rc1 rc2 r1 r2 _ HA1h.out HA2h.out).mono ?_
        rintro e wY ⟨rfl, hb⟩
        rw [show Q.eqB r1 r2 = true by unfold Q.eqB; rw [HE2.out]; simp]
        have HBi := Lib.hid (fin HBh.out hb)
        have HA1i := Lib.hid (HA1h.out.below hb)
        have HA3i := Lib.hid (HA3.out.below hb)
        clear hb
        go_wp2
        go_loopw [15, 84] (fun _ i wr => ∃ j : Nat, j ≤ r1.length ∧ i = .int .i64 j ∧ Below wY.heap.size wY wr) (fun _ i _ => r1.length - (intOf i).toNat)
        case atStart => exact ⟨0, by omega, rfl, Below.refl _ _⟩
        case round =>
          obtain ⟨j, hj, rfl, hbr⟩ := hrel
          have HBr := Lib.hid hbr
          clear hbr
          have hlr1 := HA1i.out.len
          by_cases hlt2 : j < r1.length
          · have hj3 : j < r3.length := by have := HL1.out; have := HL3.out; omega
            obtain ⟨x, hx⟩ : ∃ x, r1[j]? = some x := ⟨r1[j], by simp [hlt2]⟩
            obtain ⟨b5, o5, rfl, hbl5, hc5⟩ := (HA1i.out.below HBr.out).addr (by omega)
            have d5 := hc5 j x hx
            have HX := Lib.hid hx
            clear hc5 hx
            cases x
            · go_wp2
              go_roundw
              case rel => exact ⟨j + 1, by omega, by go_num, HBr.out⟩
              case measure => simp [intOf]; omega
            · have hy3 : r3[j]? = some true := HS3.out j HX.out
              obtain ⟨b6, o6, rfl, hbl6, hc6⟩ := (HA3i.out.below HBr.out).addr (by omega)
              have d6 := hc6 j _ hy3
              clear hc6 hy3
              go_wp2
              go_roundw
              case rel => exact ⟨j + 1, by omega, by go_num, HBr.out⟩
              case measure => simp [intOf]; omega
          · go_wp2
            go_ret
            exact ⟨rfl, fin HBi.out HBr.out⟩
end Go.Proofs.YtcbboomnonnofaaDoor

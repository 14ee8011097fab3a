/- The law RulesOf, walked. -/
import Derived.Test.YtnmcajinaigcjaaGreatDoorWForm
import Derived.Test.YtnmcajinaigcjaaGreatDoorDBigL
import Derived.Test.YtnmcajinaigcjaaGreatDoorQAll
import Derived.Test.YtnmcajinaigcjaaGreatDoorDNum
namespace Go.Proofs.YtnmcajinaigcjaaGreatDoor
open Go.RowKit
open Q (It Ver Tm Sp Rc Dm)
open Go.Proofs.YtnmcajinaigcjaaGreatDoor.C

theorem W.wrong_step {l : List Rc} {on : List Bool} {ds : List Dm} {k : Nat} {d : Dm} (h : ds[k]? = some d) : (decide (on.length ≠ l.length) || (ds.take (k + 1)).any W.unk) = ((decide (on.length ≠ l.length) || (ds.take k).any W.unk) || decide (d.how < 1) || decide (3 < d.how)) := by
  rw [List.take_add_one, h, Option.toList_some, List.any_append, List.any_cons, List.any_nil, Bool.or_false, ← Bool.or_assoc]
  unfold W.unk
  rw [Bool.or_assoc _ (decide (d.how < 1))]
theorem W.pow_wrap6 {K N : Nat} (h : 2 ^ K = N) (hN : N ≤ 64) : wrap64 ((2 : Int) ^ K) = (N : Int) ∧ IntKind.i64.wrap ((2 : Int) ^ K) = (N : Int) := by
  have e : ((2 : Int) ^ K) = (N : Int) := by rw [← h]; simp
  rw [e]
  have h1 : wrap64 (N : Int) = (N : Int) := IntWalk.wrap64_in _ ⟨by omega, by omega⟩
  have h2 : IntKind.i64.wrap (N : Int) = (N : Int) := by rw [IntKind.wrap_i64]; omega
  exact ⟨h1, h2⟩
set_option maxHeartbeats 8000000 in
set_option maxRecDepth 100000 in
theorem rulesOfLaw (A : Nat → Addr) (a o b da : Option Addr) (c oc e dc : Nat) (l : List Rc) (on ch0 : List Bool) (ds : List Dm) (w : World) (hC : Cho w a o b da c oc e dc l on ch0 ds) (hA : Errs w A) :
    Calls Tryz.prog 4 #[.agg #[.slice a l.length c, .slice o on.length oc, .slice b ch0.length e, .slice da ds.length dc]] w fun e w' => e = .returned (.bool true) ∧ Below w.heap.size w w' := by
  have HC := Lib.hid hC
  have HA := Lib.hid hA
  have HE := Lib.hid (show ErrR w (A 9) from (hA.at' 9 _ rfl).cell)
  have hl1 := hC.recs.len
  have hl2 := hC.ons.len
  have hl4 := hC.dms.len
  clear hC hA
  have hX : ChBox (w.alloc (Obj.cells #[.slice a l.length c, .slice o on.length oc, .slice b ch0.length e, .slice da ds.length dc] 42)) w.heap.size a o b da c oc e dc l on ch0 ds := ⟨by simp, by simp, by simp, by simp, by simp⟩
  have HX := Lib.hid hX
  clear hX
  go_enter Tryz.func4, Tryz.ntmps4
  go_wp2_with fail
  refine (alive19 (A 9) _ (HE.out.below (b1 _ _))).mono ?_
  rintro e w1 ⟨rfl, hb⟩
  have HXa := Lib.hid (HX.out.below hb)
  have HBa := Lib.hid (fin (b1 _ _) hb)
  clear hb HX
  obtain ⟨za, a0, a1, a2, a3⟩ := HXa.out
  go_wp2_with fail
  (with_reducible refine (bigAllL a c l 6 _ (HC.out.below HBa.out).recs (by omega)).mono ?_)
  rintro e w2 ⟨q, rfl, hq, hb⟩
  have HXb := Lib.hid (HXa.out.below hb)
  have HBb := Lib.hid (fin HBa.out hb)
  clear hb a0 a1 a2 a3
  obtain ⟨zb, b0, b1, b2, b3⟩ := HXb.out
  cases q
  case true =>
    go_wp2
    go_ret
    exact ⟨rfl, HBb.out⟩
  have h6 := (hq rfl).1
  have HSM := Lib.hid (hq rfl).2
  clear hq
  by_cases h1 : 20 < on.length
  · have d1 : decide ((20 : Int) < (on.length : Int)) = true := by simp; omega
    go_wp2
    go_ret
    exact ⟨rfl, HBb.out⟩
  have d1 : decide ((20 : Int) < (on.length : Int)) = false := by simp; omega
  by_cases h2 : 4 < ds.length
  · have d2 : decide ((4 : Int) < (ds.length : Int)) = true := by simp; omega
    go_wp2
    go_ret
    exact ⟨rfl, HBb.out⟩
  have d2 : decide ((4 : Int) < (ds.length : Int)) = false := by simp; omega
  go_wp2_with fail
  (with_reducible refine (bigD_len da dc ds _ (HC.out.below HBb.out).dms).mono ?_)
  rintro e w3 ⟨q, rfl, hq, hb⟩
  have HXc := Lib.hid (HXb.out.below hb)
  have HBc := Lib.hid (fin HBb.out hb)
  clear hb b0 b1 b2 b3 hq
  obtain ⟨zc, c0, c1, c2, c3⟩ := HXc.out
  cases q
  case true =>
    go_wp2
    go_ret
    exact ⟨rfl, HBc.out⟩
  clear d1 d2
  have h6n : l.length ≤ 6 := by omega
  cases hw : W.wrong l on ds
  · have hl : on.length = l.length := by
      unfold W.wrong at hw
      by_cases h : on.length = l.length
      · exact h
      · simp [h] at hw
    have hu : ds.any W.unk = false := by
      unfold W.wrong at hw
      cases h : ds.any W.unk
      · rfl
      · rw [h] at hw; simp at hw
    have hhow : ∀ d ∈ ds, 1 ≤ d.how ∧ d.how ≤ 3 := fun d hd => by
      have := List.any_eq_false.1 hu d hd
      unfold W.unk at this
      simp at this
      omega
    have HOF := Lib.hid (W.of_ok (A 9) a o da c oc dc l on ds w3 ⟨(HC.out.below HBc.out).recs, (HC.out.below HBc.out).ons⟩ hl (HC.out.below HBc.out).dms (HE.out.below HBc.out) (fun r hr => by have := (HSM.out r hr).1; omega) (by omega) (by omega) hu)
    have HWR := Lib.hid hw
    have HL := Lib.hid hl
    have HHOW := Lib.hid hhow
    clear hw hl hu hhow
    go_wp2_with fail
    (with_reducible refine HOF.out.mono ?_)
    rintro e1 w4 ⟨p, sa, fa, fc, rfl, hf, ho, hb⟩
    have HF4 := Lib.hid hf
    have HO4 := Lib.hid ho
    have HXd := Lib.hid (HXc.out.below hb)
    have HBd := Lib.hid (fin HBc.out hb)
    clear hb hf ho c0 c1 c2 c3 HOF
    obtain ⟨zd, c0, c1, c2, c3⟩ := HXd.out
    obtain ⟨wb, hwb⟩ : ∃ x, decide (on.length ≠ l.length) = x := ⟨_, rfl⟩
    have hwb2 : ((on.length : Int) != (l.length : Int)) = wb := by
      rw [← hwb, Bool.eq_iff_iff, bne_iff_ne, decide_eq_true_iff]; omega
    have HWB := Lib.hid hwb
    obtain ⟨W5, hW5⟩ : ∃ x, x = w4.alloc (Obj.cells #[.pointer (some ⟨p, 0, none⟩), .slice sa ds.length ds.length] 46) := ⟨_, rfl⟩
    have hb5 : Below w4.heap.size w4 W5 := hW5 ▸ (Below.refl _ _).alloc (Nat.le_refl _) _
    have hz5 : w4.heap.size < W5.heap.size := by rw [hW5]; simp
    have R0 : W5.cell? ⟨w4.heap.size, 0, none⟩ = some (.pointer (some ⟨p, 0, none⟩)) := by rw [hW5]; simp
    have R1 : W5.cell? ⟨w4.heap.size, 1, none⟩ = some (.slice sa ds.length ds.length) := by rw [hW5]; simp
    have HXd2 := Lib.hid (HXd.out.below hb5)
    have HBd2 := Lib.hid (fin HBd.out hb5)
    have HB45 := Lib.hid hb5
    have HW5 := Lib.hid hW5
    clear hwb hW5 hb5
    go_wp2
    go_loopw [5, 7, 56] (fun v _ i wr => ∃ k : Nat, k ≤ ds.length ∧ i = .int .i64 k ∧ v = .bool (wb || (ds.take k).any W.unk) ∧ Below W5.heap.size W5 wr) (fun _ _ i _ => ds.length - (intOf i).toNat)
    case atStart => exact ⟨0, Nat.zero_le _, rfl, by simp, by rw [HW5.out]; exact Below.refl _ _⟩
    case round =>
      obtain ⟨k, hk, rfl, rfl, hbr⟩ := hrel
      have HXe := Lib.hid (HXd2.out.below hbr)
      have HBe := Lib.hid (fin HBd2.out hbr)
      have HBr := Lib.hid hbr
      have zr := hbr.size
      clear hbr
      obtain ⟨ze, e0, e1, e2, e3⟩ := HXe.out
      by_cases hlk : k < ds.length
      · obtain ⟨d, hd⟩ : ∃ x, ds[k]? = some x := ⟨ds[k], by simp [hlk]⟩
        obtain ⟨bb, off, ra, rc, rfl, hbl, ⟨t0, t1, t2, t3, t4, t5⟩, _, hhow⟩ := (HC.out.dms.below stays_RDm HBe.out).cellsDm hd
        have hst := W.wrong_step (l := l) (on := on) hd
        rw [HWB.out] at hst
        have HST := Lib.hid hst
        have HBX := Lib.hid (HBr.out.alloc zr (Obj.cells #[.int .i64 d.how, .string d.spec.chan, .string d.spec.name, .slice ra d.spec.rows.length rc, .string d.spec.build, .int .i64 d.spec.num] 55))
        obtain ⟨cur, hcur⟩ : ∃ x, (wb || (ds.take k).any W.unk) = x := ⟨_, rfl⟩
        rw [hcur] at HST ⊢
        clear hst hd hhow hcur
        cases cur
        · by_cases h7 : d.how < 1
          · have h8 : decide (d.how < 1) = true := by simpa using h7
            rw [h8] at HST
            clear h7
            go_wp2
            go_roundw
            case rel => exact ⟨k + 1, by omega, by go_num, by rw [HST.out]; rfl, HBX.out⟩
            case measure => simp [intOf]; omega
          · have h8 : decide (d.how < 1) = false := by simpa using h7
            rw [h8] at HST
            by_cases h9 : 3 < d.how
            · have h10 : decide (d.how > 3) = true := by simpa using h9
              have h11 : decide (3 < d.how) = true := by simpa using h9
              rw [h11] at HST
              clear h7 h9
              go_wp2
              go_roundw
              case rel => exact ⟨k + 1, by omega, by go_num, by rw [HST.out]; rfl, HBX.out⟩
              case measure => simp [intOf]; omega
            · have h10 : decide (d.how > 3) = false := by simpa using h9
              have h11 : decide (3 < d.how) = false := by simpa using h9
              rw [h11] at HST
              clear h7 h9
              go_wp2
              go_roundw
              case rel => exact ⟨k + 1, by omega, by go_num, by rw [HST.out]; rfl, HBX.out⟩
              case measure => simp [intOf]; omega
        · go_wp2
          go_roundw
          case rel => exact ⟨k + 1, by omega, by go_num, by rw [HST.out]; rfl, HBX.out⟩
          case measure => simp [intOf]; omega
      · obtain rfl : k = ds.length := by omega
        have hwv : (wb || (ds.take ds.length).any W.unk) = false := by rw [List.take_length, ← HWB.out]; exact HWR.out
        rw [hwv]
        clear hwv
        have r0 := (HBr.out.cell (p := ⟨w4.heap.size, 0, none⟩) (show w4.heap.size < W5.heap.size by omega)).trans R0
        have r1 := (HBr.out.cell (p := ⟨w4.heap.size, 1, none⟩) (show w4.heap.size < W5.heap.size by omega)).trans R1
        have hz9 : w4.heap.size < wr.heap.size := by omega
        have HF9 := Lib.hid (HF4.out.below (HB45.out.trans (HBr.out.mono (by omega))))
        have HO9 := Lib.hid (HO4.out.below (HB45.out.trans (HBr.out.mono (by omega))))
        have hdd : ((ds.length : Int) != (ds.length : Int)) = false := by simp
        obtain ⟨w9, hw9⟩ : ∃ x, x = wr := ⟨_, rfl⟩
        subst hw9
        obtain ⟨V, hV⟩ : ∃ x, l.length + ds.length = x := ⟨_, rfl⟩
        obtain ⟨cs, hcs⟩ : ∃ x, M.rulesC l on ds = x := ⟨_, rfl⟩
        have hf9 := HF9.out
        rw [hV, hcs] at hf9
        have hcn : cs.length ≤ 1000 := by rw [← hcs]; exact M.rulesC_len h6n (by omega) (fun r hr => (HSM.out r hr).1)
        have HCLA := Lib.hid (fun (W : World) (hW : Below w9.heap.size w9 W) => (show Calls Tryz.prog 18 #[.pointer (some ⟨p, 0, none⟩)] W fun e W' => ∃ ra, e = .returned (.slice (some ⟨ra, 0, none⟩) cs.length cs.length) ∧ C.Cls W' (some ⟨ra, 0, none⟩) cs ∧ Below w9.heap.size w9 W' from (C.clauses_any (Y := C.NoX) w3.heap.size p V cs fa fc W (hf9.below hW) (C.NoX.lt _)).mono fun e W' ⟨h1, h2, h3⟩ => ⟨_, h1, h2.cls (by omega), fin hW h3⟩))
        have HVAR := Lib.hid (fun (W : World) (hW : Below w9.heap.size w9 W) => C.vars_any p V W (hf9.below hW).cell0)
        have HS := Lib.hid (fun (W : World) (hW : Below w9.heap.size w9 W) => (hW.cell (p := ⟨w4.heap.size, 0, none⟩) hz9).trans r0)
        have HV := Lib.hid hV
        have HCS := Lib.hid hcs
        clear R0 R1 hf9 hV hcs
        go_wp2_with fail
        go_cut [9, 10] (fun s9 s10 wx => ∃ ra, s9 = .slice (some ⟨ra, 0, none⟩) cs.length cs.length ∧ s10 = .int .i64 V ∧ C.Cls wx (some ⟨ra, 0, none⟩) cs ∧ Below w9.heap.size w9 wx)
        case first =>
          go_region_held3 (fun W => W.cell? ⟨w4.heap.size, 0, none⟩ = some (.pointer (some ⟨p, 0, none⟩)))
            (first | exact HS.out _ HB6.out | exact HS.out _ ((Below.refl _ _).drew))
            (first
            | (go_at_call 19; refine (HVAR.out _ (by first | exact HB6.out | exact (Below.refl _ _).drew)).mono ?_; rintro e w6 ⟨rfl, rfl⟩)
            | (go_at_call 18; refine (HCLA.out _ ((Below.refl _ _).drew)).mono ?_; rintro e w7 ⟨ra, rfl, hC7, hb7⟩; have HB6 := Lib.hid hb7; have HC7 := Lib.hid hC7; clear hb7 hC7))
          all_goals
            go_wp2_with fail
            go_meet
            exact ⟨ra, rfl, rfl, HC7.out, HB6.out⟩
        case rest =>
          obtain ⟨ra, rfl, rfl, hcl, hbc⟩ := hcut
          obtain ⟨w10, rfl⟩ : ∃ x : World, x = wc := ⟨_, rfl⟩
          have HXf := Lib.hid (HXe.out.below hbc)
          have HBf := Lib.hid (fin HBe.out hbc)
          have HCL := Lib.hid hcl
          have HOf := Lib.hid (HO9.out.below hbc)
          have q0 := (hbc.cell (p := ⟨w4.heap.size, 0, none⟩) hz9).trans r0
          have q1 := (hbc.cell (p := ⟨w4.heap.size, 1, none⟩) hz9).trans r1
          have hzA : w4.heap.size < w10.heap.size := Nat.lt_of_lt_of_le hz9 hbc.size
          obtain ⟨zf, f0, f1, f2, f3⟩ := HXf.out
          obtain ⟨N, hN⟩ : ∃ N, 2 ^ l.length = N := ⟨_, rfl⟩
          have hN64 : N ≤ 64 := by rw [← hN]; exact Nat.pow_le_pow_right (n := 2) (j := 6) (by omega) h6n
          obtain ⟨hw, hw2⟩ := W.pow_wrap6 hN hN64
          have HW := Lib.hid hw
          have HWb := Lib.hid hw2
          clear hcl hbc hN hw hw2 e0 e1 e2 e3 r0 r1 HS HVAR HCLA hdd
          go_wp2
          first | rw [HW.out] | rw [HWb.out]
          go_loopw [11, 12, 13, 108] (fun _ _ _ i wr => ∃ k : Nat, k ≤ N ∧ i = .int .i64 k ∧ Below w10.heap.size w10 wr) (fun _ _ _ i _ => N - (intOf i).toNat)
          case atStart => exact ⟨0, Nat.zero_le _, rfl, Below.refl _ _⟩
          case round =>
            obtain ⟨k, hk, rfl, hbr⟩ := hrel
            rename World => w11
            have HB11 := Lib.hid hbr
            have hz11 := hbr.size
            clear hbr
            by_cases hlk : k < N
            · go_wp2_with (at_make; refine C.wpList_make_Bools rfl (.tmp 111) (.tmp 111) rfl w10.heap.size l.length rfl rfl (by omega) hz11 ?_; intro w12 hown hb12 hlt12; have HO12 := Lib.hid hown; have HB12 := Lib.hid hb12; clear hown hb12)
              go_loopw [13, 115] (fun _ i wr => ∃ j : Nat, j ≤ l.length ∧ i = .int .i64 j ∧ C.OwnB wr w10.heap.size (some ⟨w11.heap.size, 0, none⟩) l.length (C.M.modelTo l.length k j) ∧ Below w11.heap.size w11 wr) (fun _ i _ => l.length - (intOf i).toNat)
              case atStart => exact ⟨0, Nat.zero_le _, rfl, by simpa [C.M.modelTo] using HO12.out, HB12.out⟩
              case round =>
                obtain ⟨j, hj, rfl, ho2, hb2⟩ := hrel
                rename World => w13
                have HO2 := Lib.hid ho2
                have HB2 := Lib.hid hb2
                clear ho2 hb2
                by_cases hjl : j < l.length
                · have hfz := HO2.out.frozen j
                  obtain ⟨y, hy⟩ : ∃ y, (C.M.modelTo l.length k j)[j]? = some y := ⟨_, List.getElem?_eq_getElem (by rw [C.M.modelTo_length _ _ _ hj]; exact hjl)⟩
                  have hcell := HO2.out.cell hy
                  clear hy
                  go_wp2
                  go_roundw
                  case rel =>
                    rw [C.bit_at k j (by omega)]
                    exact ⟨j + 1, by omega, by go_num, by rw [← C.M.modelTo_set l.length k j hjl]; exact HO2.out.stored j _, HB2.out.setCell (Nat.le_refl _) _⟩
                  case measure => simp [intOf]; omega
                · obtain rfl : j = l.length := by omega
                  have hmod : C.M.modelTo l.length k l.length = C.M.model l.length k := by simp [C.M.modelTo, C.M.model]
                  have hO3 := HO2.out
                  rw [hmod] at hO3
                  have hb13 := HB11.out.trans (HB2.out.mono hz11)
                  have HB13 := Lib.hid hb13
                  have hz13 := hb13.size
                  have hml := C.M.model_length l.length k
                  have hcb := hO3.bools (by rw [hml]; omega)
                  have g0 := (hb13.cell (p := ⟨w.heap.size, 0, none⟩) zf).trans f0
                  have g1 := (hb13.cell (p := ⟨w.heap.size, 1, none⟩) zf).trans f1
                  have g2 := (hb13.cell (p := ⟨w.heap.size, 2, none⟩) zf).trans f2
                  have g3 := (hb13.cell (p := ⟨w.heap.size, 3, none⟩) zf).trans f3
                  have s0 := (hb13.cell (p := ⟨w4.heap.size, 0, none⟩) hzA).trans q0
                  have s1 := (hb13.cell (p := ⟨w4.heap.size, 1, none⟩) hzA).trans q1
                  have hC13 := HC.out.below (fin HBf.out hb13)
                  have hsel := (HOf.out.below hb13).ints (fun z hz => by
                    simp only [C.M.iota, List.mem_map, List.mem_range] at hz
                    obtain ⟨i, hi, rfl⟩ := hz
                    unfold C.I64; omega) (by rw [C.M.iota_length]; omega)
                  have hcls : C.Cls w13 (some ⟨ra, 0, none⟩) (M.rulesC l on ds) := by rw [HCS.out]; exact HCL.out.below hb13
                  have hfm := W.formula_any a o da (some ⟨w11.heap.size, 0, none⟩) sa (some ⟨ra, 0, none⟩) c oc dc l.length ds.length cs.length (.slice b ch0.length e) (.pointer (some ⟨p, 0, none⟩)) l on (C.M.model l.length k) ds w13 ⟨⟨hC13.recs, ⟨hcb.addr, hcb.len⟩⟩, hC13.ons, hC13.cr.1, hC13.dms, hsel, hcls, HL.out, hml, HHOW.out, h6n, by omega, fun r hr => (HSM.out r hr).1⟩
                  rw [hml, HV.out, HCS.out] at hfm
                  have HFM := Lib.hid hfm
                  have hlw : w.heap.size < w13.heap.size := Nat.lt_of_lt_of_le zf hz13
                  have hlw4 : w4.heap.size < w13.heap.size := Nat.lt_of_lt_of_le hzA hz13
                  clear hmod hO3 hb13 hml hcb hC13 hsel hcls hfm
                  go_wp2_with fail
                  (with_reducible refine HFM.out.mono ?_)
                  rintro e1 w14 ⟨rfl, hb14⟩
                  have HB14 := Lib.hid (HB13.out.trans (hb14.mono hz13))
                  clear hb14 HFM
                  go_wp2
                  go_roundw
                  case rel => exact ⟨k + 1, by omega, by go_num, HB14.out⟩
                  case measure => simp [intOf]; omega
            · go_wp2
              go_ret
              exact ⟨rfl, fin HBf.out HB11.out⟩
  · have HOF := Lib.hid (W.of_bad (A 9) a o da c oc dc l on ds w3 (HC.out.below HBc.out).dms (HE.out.below HBc.out) (by omega) hw)
    have HWR := Lib.hid hw
    clear hw
    go_wp2_with fail
    (with_reducible refine HOF.out.mono ?_)
    rintro e1 w4 ⟨rfl, hb⟩
    have HXd := Lib.hid (HXc.out.below hb)
    have HBd := Lib.hid (fin HBc.out hb)
    clear hb c0 c1 c2 c3 HOF
    obtain ⟨zd, c0, c1, c2, c3⟩ := HXd.out
    obtain ⟨wb, hwb⟩ : ∃ x, decide (on.length ≠ l.length) = x := ⟨_, rfl⟩
    have hwb2 : ((on.length : Int) != (l.length : Int)) = wb := by
      rw [← hwb, Bool.eq_iff_iff, bne_iff_ne, decide_eq_true_iff]; omega
    have HWB := Lib.hid hwb
    obtain ⟨W5, hW5⟩ : ∃ x, x = w4.alloc (Obj.cells #[.pointer none, .slice none 0 0] 46) := ⟨_, rfl⟩
    have hb5 : Below w4.heap.size w4 W5 := hW5 ▸ (Below.refl _ _).alloc (Nat.le_refl _) _
    have hz5 : w4.heap.size < W5.heap.size := by rw [hW5]; simp
    have R0 : W5.cell? ⟨w4.heap.size, 0, none⟩ = some (.pointer none) := by rw [hW5]; simp
    have R1 : W5.cell? ⟨w4.heap.size, 1, none⟩ = some (.slice none 0 0) := by rw [hW5]; simp
    have HXd2 := Lib.hid (HXd.out.below hb5)
    have HBd2 := Lib.hid (fin HBd.out hb5)
    have HB45 := Lib.hid hb5
    have HW5 := Lib.hid hW5
    clear hwb hW5 hb5
    go_wp2
    go_loopw [5, 7, 56] (fun v _ i wr => ∃ k : Nat, k ≤ ds.length ∧ i = .int .i64 k ∧ v = .bool (wb || (ds.take k).any W.unk) ∧ Below W5.heap.size W5 wr) (fun _ _ i _ => ds.length - (intOf i).toNat)
    case atStart => exact ⟨0, Nat.zero_le _, rfl, by simp, by rw [HW5.out]; exact Below.refl _ _⟩
    case round =>
      obtain ⟨k, hk, rfl, rfl, hbr⟩ := hrel
      have HXe := Lib.hid (HXd2.out.below hbr)
      have HBe := Lib.hid (fin HBd2.out hbr)
      have HBr := Lib.hid hbr
      have zr := hbr.size
      clear hbr
      obtain ⟨ze, e0, e1, e2, e3⟩ := HXe.out
      by_cases hlk : k < ds.length
      · obtain ⟨d, hd⟩ : ∃ x, ds[k]? = some x := ⟨ds[k], by simp [hlk]⟩
        obtain ⟨bb, off, ra, rc, rfl, hbl, ⟨t0, t1, t2, t3, t4, t5⟩, _, hhow⟩ := (HC.out.dms.below stays_RDm HBe.out).cellsDm hd
        have hst := W.wrong_step (l := l) (on := on) hd
        rw [HWB.out] at hst
        have HST := Lib.hid hst
        have HBX := Lib.hid (HBr.out.alloc zr (Obj.cells #[.int .i64 d.how, .string d.spec.chan, .string d.spec.name, .slice ra d.spec.rows.length rc, .string d.spec.build, .int .i64 d.spec.num] 55))
        obtain ⟨cur, hcur⟩ : ∃ x, (wb || (ds.take k).any W.unk) = x := ⟨_, rfl⟩
        rw [hcur] at HST ⊢
        clear hst hd hhow hcur
        cases cur
        · by_cases h7 : d.how < 1
          · have h8 : decide (d.how < 1) = true := by simpa using h7
            rw [h8] at HST
            clear h7
            go_wp2
            go_roundw
            case rel => exact ⟨k + 1, by omega, by go_num, by rw [HST.out]; rfl, HBX.out⟩
            case measure => simp [intOf]; omega
          · have h8 : decide (d.how < 1) = false := by simpa using h7
            rw [h8] at HST
            by_cases h9 : 3 < d.how
            · have h10 : decide (d.how > 3) = true := by simpa using h9
              have h11 : decide (3 < d.how) = true := by simpa using h9
              rw [h11] at HST
              clear h7 h9
              go_wp2
              go_roundw
              case rel => exact ⟨k + 1, by omega, by go_num, by rw [HST.out]; rfl, HBX.out⟩
              case measure => simp [intOf]; omega
            · have h10 : decide (d.how > 3) = false := by simpa using h9
              have h11 : decide (3 < d.how) = false := by simpa using h9
              rw [h11] at HST
              clear h7 h9
              go_wp2
              go_roundw
              case rel => exact ⟨k + 1, by omega, by go_num, by rw [HST.out]; rfl, HBX.out⟩
              case measure => simp [intOf]; omega
        · go_wp2
          go_roundw
          case rel => exact ⟨k + 1, by omega, by go_num, by rw [HST.out]; rfl, HBX.out⟩
          case measure => simp [intOf]; omega
      · obtain rfl : k = ds.length := by omega
        have hwv : (wb || (ds.take ds.length).any W.unk) = true := by rw [List.take_length, ← HWB.out]; exact HWR.out
        rw [hwv]
        clear hwv
        have r0 := (HBr.out.cell (p := ⟨w4.heap.size, 0, none⟩) (show w4.heap.size < W5.heap.size by omega)).trans R0
        have r1 := (HBr.out.cell (p := ⟨w4.heap.size, 1, none⟩) (show w4.heap.size < W5.heap.size by omega)).trans R1
        have hz9 : w4.heap.size < wr.heap.size := by omega
        have hnum := num_err A 9 wr (by omega) (HA.out.below HBe.out)
        unfold errAt at hnum
        have HNUM := Lib.hid hnum
        clear hnum
        go_wp2_with fail
        (with_reducible refine HNUM.out.mono ?_)
        rintro e1 w9 ⟨rfl, hb⟩
        have HB9 := Lib.hid (fin HBe.out hb)
        clear hb HNUM
        go_wp2
        go_ret
        exact ⟨rfl, HB9.out⟩
end Go.Proofs.YtnmcajinaigcjaaGreatDoor

/- slices.partitionCmpFunc with a method value. -/
import Derived.Test.YtnmcajinaigcjaaGreatDoorMKit
import Derived.Shelf.SlSortFuncK.PartitionK
import Derived.Sort.WalkC4
import Derived.Sort.WalkB2
import Derived.Sort.WalkB12
namespace Go.Proofs.YtnmcajinaigcjaaGreatDoor
open Go Go.Shelf Go.RowKit Go.Lib Go.Sort
namespace Ms
variable {P : Program} {ρ : Ren} {α : Type} [Inhabited α]

set_option maxHeartbeats 16000000 in
set_option maxRecDepth 1000000 in
/-- partition -/
theorem partition_m (L : SlLaysF.n27 P ρ) (enc : α → Value) (cf : α → α → Int) (g : Nat) (rv : Value) (blk off cap : Nat) (a b pivot : Nat) (d0 d : Array α) (w0 w : World)
    (eg : ∀ args w, (callFunc g args).run P w = .ok (.enter g args) w) (hcmp : CmpM P g rv enc cf blk off d0.size w0) (R : Row1 enc w0 blk off d0) (hs : d0.size = d.size) (S : SW enc w0 blk off d w) (hap : a ≤ pivot) (hpb : pivot < b) (hb : b ≤ d.size) (hsz : d.size < 4611686018427387904) :
    Calls P (ρ.f 27) #[.slice (some ⟨blk, off, none⟩) d.size cap, .int .i64 a, .int .i64 b, .int .i64 pivot, .func (.func g) #[rv] #[]] w fun e w' => e = .returned (.tuple #[.int .i64 (Sort.partition (ltOf cf) d a b pivot).1, .bool (Sort.partition (ltOf cf) d a b pivot).2.1]) ∧ SW enc w0 blk off (Sort.partition (ltOf cf) d a b pivot).2.2 w' := by
  have mixed := L.mixed; have t0 := L.t0; have a0 := L.a0; have z0 := L.z0; have v0 := L.v0; have t3 := L.t3; have a3 := L.a3; have z3 := L.z3; have v3 := L.v3; have t4 := L.t4; have a4 := L.a4; have z4 := L.z4; have v4 := L.v4; have t22 := L.t22; have a22 := L.a22; have z22 := L.z22; have v22 := L.v22; have a24 := L.a24; have z24 := L.z24; have t25 := L.t25; have a25 := L.a25; have z25 := L.z25; have v25 := L.v25
  have u22 := run_underlying L.t22
  have hcl0 := R.hO.cells
  simp only [Value.cells] at hcl0
  have hst := R.hO.store P
  obtain ⟨_, _, FG⟩ := L.f27
  have HC : Aside _ := hcmp
  have S0 : Aside (SW enc w0 blk off d w) := S
  clear S hcmp
  go_enter FG, SlBodyF.n27_ntmps ρ
  go_wp2_with fail
  obtain ⟨i1, j1, x1, y1, u1, ea1, pa1, ba1, ra1, eb1, pb1, bb1, rb1, ca1, cb1, fa1, fb1, cu1, S1⟩ := turn S0 R (D := (d.size : Int)) (by omega) (by omega) ((a : Int)) ((pivot : Int)) (a) (pivot) (by omega) (by omega) (by omega) (by omega) (by omega)
  clear S0
  go_wp2_with fail
  go_big_region_o
  clear ca1 cb1 cu1 fa1 fb1
  
  generalize ((w.setCell ⟨blk, off + i1, none⟩ (enc y1)).setCell ⟨blk, off + j1, none⟩ (enc x1)).drew = w1 at S1  ⊢
  clear ea1 eb1
  obtain ⟨i1, hi⟩ : ∃ i : Nat, i = a + 1 := ⟨_, rfl⟩
  obtain ⟨j1, hj⟩ : ∃ j : Nat, j = b - 1 := ⟨_, rfl⟩
  obtain ⟨dk1, hdk⟩ : ∃ dk : Array α, dk = Sort.swp d a pivot := ⟨_, rfl⟩
  rw [← hdk] at S1
  have hs1 : dk1.size = d.size := by rw [hdk]; exact size_swp _ _ _
  have hai1 : a < i1 := by omega
  have hij1 : i1 ≤ j1 + 1 := by omega
  have hjb1 : j1 < b := by omega
  have Hi : Hid (i1 = a + 1) := hi
  have Hj : Hid (j1 = b - 1) := hj
  have Hdk : Hid (dk1 = Sort.swp d a pivot) := hdk
  have ezi : ((a : Int) + 1) = (i1 : Int) := by omega
  have ezj : ((b : Int) - 1) = (j1 : Int) := by omega
  clear hi hj hdk
  go_wp2
  go_loopw [12] (fun vi w1 => ∃ (p1 : Nat), vi = .int .i64 p1 ∧ i1 ≤ p1 ∧ p1 ≤ j1 + 1 ∧ Aside (SW enc w0 blk off dk1 w1) ∧
      Hid (Sort.scanUp (fun x => (ltOf cf) x dk1[a]!) dk1 j1 p1 = Sort.scanUp (fun x => (ltOf cf) x dk1[a]!) dk1 j1 i1))
    (fun vi _ => j1 + 1 - (intOf vi).toNat)
  case atStart => exact ⟨i1, rfl, Nat.le_refl _, hij1, S1, rfl⟩
  case round =>
    clear S1
    obtain ⟨p1, rfl, hii1, hiq1, SU1, hsc1⟩ := hrel
    by_cases hle1 : p1 ≤ j1
    · have hgu1 : decide ((p1 : Int) ≤ (j1 : Int)) = true := decide_eq_true (by omega)
      obtain ⟨i2, j2, x2, y2, q2, ea2, pa2, ba2, ra2, eb2, pb2, bb2, rb2, la2, lb2, hc2, hd2, hq2⟩ := look SU1 HC R (D := (d.size : Int)) (by omega) (by omega) ((p1 : Int)) ((a : Int)) (p1) (a) (by omega) (by omega) (by omega) (by omega) (by omega)
      have hq2 : Aside _ := hq2
      go_wp2_with fail
      go_quiet_grown (first | (go_at_fn g; refine Calls.grown_of (hc2 _ _)))
      have SV1 : Aside (SW enc w0 blk off dk1 (grow (wr.drewN nq) osq)) := SU1.out.grown nq osq
      clear la2 lb2 hc2 SU1 
      generalize grow (wr.drewN nq) osq = wv1 at SV1  ⊢
      clear nq osq
      clear ea2 eb2
      cases q2 with
      | true =>
        (try simp only [Bool.not_true])
        go_wp2
        go_roundw
        case rel => exact ⟨p1 + 1, by go_num, by omega, by omega, SV1, (scanUp_go (fun x => (ltOf cf) x dk1[a]!) dk1 j1 p1 hle1 (by simp [hq2.out])).symm.trans hsc1.out⟩
        case measure => simp [intOf]; omega
      | false =>
        (try simp only [Bool.not_false])
        have hi21 : Hid (p1 = Sort.scanUp (fun x => (ltOf cf) x dk1[a]!) dk1 j1 i1) := (scanUp_end (fun x => (ltOf cf) x dk1[a]!) dk1 j1 p1 (Or.inr (by simp [hq2.out]))).symm.trans hsc1.out
        clear hsc1
        go_wp2
        go_loopw [13] (fun vj w2 => ∃ (r1 : Nat), vj = .int .i64 r1 ∧ r1 ≤ j1 ∧ p1 ≤ r1 + 1 ∧ Aside (SW enc w0 blk off dk1 w2) ∧
            Hid (Sort.scanDown (fun x => !(ltOf cf) x dk1[a]!) dk1 p1 r1 = Sort.scanDown (fun x => !(ltOf cf) x dk1[a]!) dk1 p1 j1))
          (fun vj _ => (intOf vj).toNat)
        case atStart => exact ⟨j1, rfl, Nat.le_refl _, hiq1, SV1, rfl⟩
        case round =>
          clear SV1
          obtain ⟨r1, rfl, hjj1, hir1, SD1, hsd1⟩ := hrel
          by_cases hld1 : p1 ≤ r1
          · have hgd1 : decide ((p1 : Int) ≤ (r1 : Int)) = true := decide_eq_true (by omega)
            obtain ⟨i3, j3, x3, y3, q3, ea3, pa3, ba3, ra3, eb3, pb3, bb3, rb3, la3, lb3, hc3, hd3, hq3⟩ := look SD1 HC R (D := (d.size : Int)) (by omega) (by omega) ((r1 : Int)) ((a : Int)) (r1) (a) (by omega) (by omega) (by omega) (by omega) (by omega)
            have hq3 : Aside _ := hq3
            go_wp2_with fail
            go_quiet_grown (first | (go_at_fn g; refine Calls.grown_of (hc3 _ _)))
            have SE1 : Aside (SW enc w0 blk off dk1 (grow (wr.drewN nq) osq)) := SD1.out.grown nq osq
            clear la3 lb3 hc3 SD1 
            generalize grow (wr.drewN nq) osq = we1 at SE1  ⊢
            clear nq osq
            clear ea3 eb3
            cases q3 with
            | false =>
              (try simp only [Bool.not_false])
              go_wp2
              go_roundw
              case rel => exact ⟨r1 - 1, by go_num, by omega, by omega, SE1, (scanDown_go (fun x => !(ltOf cf) x dk1[a]!) dk1 p1 r1 hld1 (by omega) (by simp [hq3.out])).symm.trans hsd1.out⟩
              case measure => simp [intOf]; omega
            | true =>
              (try simp only [Bool.not_true])
              have hj21 : Hid (r1 = Sort.scanDown (fun x => !(ltOf cf) x dk1[a]!) dk1 p1 j1) := (scanDown_end (fun x => !(ltOf cf) x dk1[a]!) dk1 p1 r1 (Or.inr (by simp [hq3.out]))).symm.trans hsd1.out
              clear hsd1
              have hlt31 := part_scans_lt (ltOf cf) a i1 j1 dk1 (by omega) hi21.out hj21.out hld1
              have hgt1 : decide ((r1 : Int) < (p1 : Int)) = false := decide_eq_false (by omega)
              have hgn1 : decide (r1 < p1) = false := decide_eq_false (by omega)
              go_wp2_with fail
              obtain ⟨i4, j4, x4, y4, u4, ea4, pa4, ba4, ra4, eb4, pb4, bb4, rb4, ca4, cb4, fa4, fb4, cu4, SF1⟩ := turn SE1 R (D := (d.size : Int)) (by omega) (by omega) ((p1 : Int)) ((r1 : Int)) (p1) (r1) (by omega) (by omega) (by omega) (by omega) (by omega)
              clear SE1
              go_wp2_with fail
              go_big_region_o
              clear ca4 cb4 cu4 fa4 fb4
              
              generalize ((we1.setCell ⟨blk, off + i4, none⟩ (enc y4)).setCell ⟨blk, off + j4, none⟩ (enc x4)).drew = wf1 at SF1  ⊢
              clear ea4 eb4
              go_wp2
              obtain ⟨I0, hI0⟩ : ∃ I0 : Nat, I0 = p1 + 1 := ⟨_, rfl⟩
              obtain ⟨J0, hJ0⟩ : ∃ J0 : Nat, J0 = r1 - 1 := ⟨_, rfl⟩
              obtain ⟨D0, hD0⟩ : ∃ D0 : Array α, D0 = Sort.swp dk1 p1 r1 := ⟨_, rfl⟩
              have PF : Hid (Sort.partition (ltOf cf) d a b pivot = ((Sort.partLoop (ltOf cf) a I0 J0 D0).1, false, Sort.swp (Sort.partLoop (ltOf cf) a I0 J0 D0).2 (Sort.partLoop (ltOf cf) a I0 J0 D0).1 a)) := by
                rw [hI0, hJ0, hD0]; exact part_first_go (ltOf cf) d a b pivot Hi.out Hj.out Hdk.out hi21.out hj21.out (by omega)
              go_loopw [12, 13] (fun vi vj wr => ∃ (i2 j2 : Nat) (dk2 : Array α), vi = .int .i64 i2 ∧ vj = .int .i64 j2 ∧ a < i2 ∧ i2 ≤ j2 + 1 ∧ j2 < b ∧ dk2.size = d.size ∧ Aside (SW enc w0 blk off dk2 wr) ∧
                  Sort.partLoop (ltOf cf) a i2 j2 dk2 = Sort.partLoop (ltOf cf) a I0 J0 D0)
                (fun vi vj _ => (intOf vj).toNat + 1 - (intOf vi).toNat)
              case atStart => exact ⟨p1 + 1, r1 - 1, Sort.swp dk1 p1 r1, by go_num, by go_num, by omega, by omega, by omega, by rw [size_swp]; exact hs1, SF1, by rw [hI0, hJ0, hD0]⟩
              case round =>
                clear SF1 hI0 hJ0 hD0 hj21 hi21 hlt31 Hi Hj Hdk
                obtain ⟨i2, j2, dk2, rfl, rfl, hai2, hij2, hjb2, hs2, T1, heq⟩ := hrel
                have AE : Hid (Sort.partLoop (ltOf cf) a i2 j2 dk2 = Sort.partLoop (ltOf cf) a I0 J0 D0) := heq
                clear heq
                go_wp2
                go_loopw [12] (fun vi w1 => ∃ (p2 : Nat), vi = .int .i64 p2 ∧ i2 ≤ p2 ∧ p2 ≤ j2 + 1 ∧ Aside (SW enc w0 blk off dk2 w1) ∧
                    Hid (Sort.scanUp (fun x => (ltOf cf) x dk2[a]!) dk2 j2 p2 = Sort.scanUp (fun x => (ltOf cf) x dk2[a]!) dk2 j2 i2))
                  (fun vi _ => j2 + 1 - (intOf vi).toNat)
                case atStart => exact ⟨i2, rfl, Nat.le_refl _, hij2, T1, rfl⟩
                case round =>
                  clear T1
                  obtain ⟨p2, rfl, hii2, hiq2, SU2, hsc2⟩ := hrel
                  by_cases hle2 : p2 ≤ j2
                  · have hgu2 : decide ((p2 : Int) ≤ (j2 : Int)) = true := decide_eq_true (by omega)
                    obtain ⟨i5, j5, x5, y5, q5, ea5, pa5, ba5, ra5, eb5, pb5, bb5, rb5, la5, lb5, hc5, hd5, hq5⟩ := look SU2 HC R (D := (d.size : Int)) (by omega) (by omega) ((p2 : Int)) ((a : Int)) (p2) (a) (by omega) (by omega) (by omega) (by omega) (by omega)
                    have hq5 : Aside _ := hq5
                    go_wp2_with fail
                    go_quiet_grown (first | (go_at_fn g; refine Calls.grown_of (hc5 _ _)))
                    have SV2 : Aside (SW enc w0 blk off dk2 (grow (wr.drewN nq) osq)) := SU2.out.grown nq osq
                    clear la5 lb5 hc5 SU2 
                    generalize grow (wr.drewN nq) osq = wv2 at SV2  ⊢
                    clear nq osq
                    clear ea5 eb5
                    cases q5 with
                    | true =>
                      (try simp only [Bool.not_true])
                      go_wp2
                      go_roundw
                      case rel => exact ⟨p2 + 1, by go_num, by omega, by omega, SV2, (scanUp_go (fun x => (ltOf cf) x dk2[a]!) dk2 j2 p2 hle2 (by simp [hq5.out])).symm.trans hsc2.out⟩
                      case measure => simp [intOf]; omega
                    | false =>
                      (try simp only [Bool.not_false])
                      have hi22 : Hid (p2 = Sort.scanUp (fun x => (ltOf cf) x dk2[a]!) dk2 j2 i2) := (scanUp_end (fun x => (ltOf cf) x dk2[a]!) dk2 j2 p2 (Or.inr (by simp [hq5.out]))).symm.trans hsc2.out
                      clear hsc2
                      go_wp2
                      go_loopw [13] (fun vj w2 => ∃ (r2 : Nat), vj = .int .i64 r2 ∧ r2 ≤ j2 ∧ p2 ≤ r2 + 1 ∧ Aside (SW enc w0 blk off dk2 w2) ∧
                          Hid (Sort.scanDown (fun x => !(ltOf cf) x dk2[a]!) dk2 p2 r2 = Sort.scanDown (fun x => !(ltOf cf) x dk2[a]!) dk2 p2 j2))
                        (fun vj _ => (intOf vj).toNat)
                      case atStart => exact ⟨j2, rfl, Nat.le_refl _, hiq2, SV2, rfl⟩
                      case round =>
                        clear SV2
                        obtain ⟨r2, rfl, hjj2, hir2, SD2, hsd2⟩ := hrel
                        by_cases hld2 : p2 ≤ r2
                        · have hgd2 : decide ((p2 : Int) ≤ (r2 : Int)) = true := decide_eq_true (by omega)
                          obtain ⟨i6, j6, x6, y6, q6, ea6, pa6, ba6, ra6, eb6, pb6, bb6, rb6, la6, lb6, hc6, hd6, hq6⟩ := look SD2 HC R (D := (d.size : Int)) (by omega) (by omega) ((r2 : Int)) ((a : Int)) (r2) (a) (by omega) (by omega) (by omega) (by omega) (by omega)
                          have hq6 : Aside _ := hq6
                          go_wp2_with fail
                          go_quiet_grown (first | (go_at_fn g; refine Calls.grown_of (hc6 _ _)))
                          have SE2 : Aside (SW enc w0 blk off dk2 (grow (wr.drewN nq) osq)) := SD2.out.grown nq osq
                          clear la6 lb6 hc6 SD2 
                          generalize grow (wr.drewN nq) osq = we2 at SE2  ⊢
                          clear nq osq
                          clear ea6 eb6
                          cases q6 with
                          | false =>
                            (try simp only [Bool.not_false])
                            go_wp2
                            go_roundw
                            case rel => exact ⟨r2 - 1, by go_num, by omega, by omega, SE2, (scanDown_go (fun x => !(ltOf cf) x dk2[a]!) dk2 p2 r2 hld2 (by omega) (by simp [hq6.out])).symm.trans hsd2.out⟩
                            case measure => simp [intOf]; omega
                          | true =>
                            (try simp only [Bool.not_true])
                            have hj22 : Hid (r2 = Sort.scanDown (fun x => !(ltOf cf) x dk2[a]!) dk2 p2 j2) := (scanDown_end (fun x => !(ltOf cf) x dk2[a]!) dk2 p2 r2 (Or.inr (by simp [hq6.out]))).symm.trans hsd2.out
                            clear hsd2
                            have hlt32 := part_scans_lt (ltOf cf) a i2 j2 dk2 (by omega) hi22.out hj22.out hld2
                            have hgt2 : decide ((r2 : Int) < (p2 : Int)) = false := decide_eq_false (by omega)
                            have hgn2 : decide (r2 < p2) = false := decide_eq_false (by omega)
                            go_wp2_with fail
                            obtain ⟨i7, j7, x7, y7, u7, ea7, pa7, ba7, ra7, eb7, pb7, bb7, rb7, ca7, cb7, fa7, fb7, cu7, SF2⟩ := turn SE2 R (D := (d.size : Int)) (by omega) (by omega) ((p2 : Int)) ((r2 : Int)) (p2) (r2) (by omega) (by omega) (by omega) (by omega) (by omega)
                            clear SE2
                            go_wp2_with fail
                            go_big_region_o
                            clear ca7 cb7 cu7 fa7 fb7
                            
                            generalize ((we2.setCell ⟨blk, off + i7, none⟩ (enc y7)).setCell ⟨blk, off + j7, none⟩ (enc x7)).drew = wf2 at SF2  ⊢
                            clear ea7 eb7
                            go_wp2
                            go_roundw
                            case rel =>
                              refine ⟨p2 + 1, r2 - 1, Sort.swp dk2 p2 r2, by go_num, by go_num, by omega, by omega, by omega, by rw [size_swp]; exact hs2, SF2, ?_⟩
                              rw [← AE.out]; exact (part_go (ltOf cf) a i2 j2 dk2 hi22.out hj22.out (by omega)).symm
                            case measure => simp [intOf]; omega
                        · have hj22 : Hid (r2 = Sort.scanDown (fun x => !(ltOf cf) x dk2[a]!) dk2 p2 j2) := (scanDown_end (fun x => !(ltOf cf) x dk2[a]!) dk2 p2 r2 (Or.inl hld2)).symm.trans hsd2.out
                          have hgd2 : decide ((p2 : Int) ≤ (r2 : Int)) = false := decide_eq_false (by omega)
                          have hgt2 : decide ((r2 : Int) < (p2 : Int)) = true := decide_eq_true (by omega)
                          have hgn2 : decide (r2 < p2) = true := decide_eq_true (by omega)
                          clear hsd2
                          go_wp2_with fail
                          go_big_region_o
                          have SE2 : Aside (SW enc w0 blk off dk2 wr.drew) := SD2.out.drew
                          clear SD2
                          generalize wr.drew = we2 at SE2 ⊢
                          go_wp2_with fail
                          obtain ⟨i8, j8, x8, y8, u8, ea8, pa8, ba8, ra8, eb8, pb8, bb8, rb8, ca8, cb8, fa8, fb8, cu8, SF2⟩ := turn SE2 R (D := (d.size : Int)) (by omega) (by omega) ((r2 : Int)) ((a : Int)) (r2) (a) (by omega) (by omega) (by omega) (by omega) (by omega)
                          clear SE2
                          go_wp2_with fail
                          go_big_region_o
                          clear ca8 cb8 cu8 fa8 fb8
                          
                          generalize ((we2.setCell ⟨blk, off + i8, none⟩ (enc y8)).setCell ⟨blk, off + j8, none⟩ (enc x8)).drew = wf2 at SF2  ⊢
                          clear ea8 eb8
                          go_wp2
                          go_ret2
                          have e := part_break (ltOf cf) a i2 j2 dk2 hi22.out hj22.out (by omega)
                          rw [PF.out, ← AE.out, e]
                          exact ⟨rfl, SF2.out⟩
                  · have hi22 : Hid (p2 = Sort.scanUp (fun x => (ltOf cf) x dk2[a]!) dk2 j2 i2) := (scanUp_end (fun x => (ltOf cf) x dk2[a]!) dk2 j2 p2 (Or.inl hle2)).symm.trans hsc2.out
                    have hgu2 : decide ((p2 : Int) ≤ (j2 : Int)) = false := decide_eq_false (by omega)
                    clear hsc2
                    go_wp2_with fail
                    go_big_region_o
                    have SV2 : Aside (SW enc w0 blk off dk2 wr.drew) := SU2.out.drew
                    clear SU2
                    generalize wr.drew = wv2 at SV2 ⊢
                    go_wp2
                    go_loopw [13] (fun vj w2 => ∃ (r2 : Nat), vj = .int .i64 r2 ∧ r2 ≤ j2 ∧ p2 ≤ r2 + 1 ∧ Aside (SW enc w0 blk off dk2 w2) ∧
                        Hid (Sort.scanDown (fun x => !(ltOf cf) x dk2[a]!) dk2 p2 r2 = Sort.scanDown (fun x => !(ltOf cf) x dk2[a]!) dk2 p2 j2))
                      (fun vj _ => (intOf vj).toNat)
                    case atStart => exact ⟨j2, rfl, Nat.le_refl _, hiq2, SV2, rfl⟩
                    case round =>
                      clear SV2
                      obtain ⟨r2, rfl, hjj2, hir2, SD2, hsd2⟩ := hrel
                      by_cases hld2 : p2 ≤ r2
                      · exfalso; omega
                      · have hj22 : Hid (r2 = Sort.scanDown (fun x => !(ltOf cf) x dk2[a]!) dk2 p2 j2) := (scanDown_end (fun x => !(ltOf cf) x dk2[a]!) dk2 p2 r2 (Or.inl hld2)).symm.trans hsd2.out
                        have hgd2 : decide ((p2 : Int) ≤ (r2 : Int)) = false := decide_eq_false (by omega)
                        have hgt2 : decide ((r2 : Int) < (p2 : Int)) = true := decide_eq_true (by omega)
                        have hgn2 : decide (r2 < p2) = true := decide_eq_true (by omega)
                        clear hsd2
                        go_wp2_with fail
                        go_big_region_o
                        have SE2 : Aside (SW enc w0 blk off dk2 wr.drew) := SD2.out.drew
                        clear SD2
                        generalize wr.drew = we2 at SE2 ⊢
                        go_wp2_with fail
                        obtain ⟨i9, j9, x9, y9, u9, ea9, pa9, ba9, ra9, eb9, pb9, bb9, rb9, ca9, cb9, fa9, fb9, cu9, SF2⟩ := turn SE2 R (D := (d.size : Int)) (by omega) (by omega) ((r2 : Int)) ((a : Int)) (r2) (a) (by omega) (by omega) (by omega) (by omega) (by omega)
                        clear SE2
                        go_wp2_with fail
                        go_big_region_o
                        clear ca9 cb9 cu9 fa9 fb9
                        
                        generalize ((we2.setCell ⟨blk, off + i9, none⟩ (enc y9)).setCell ⟨blk, off + j9, none⟩ (enc x9)).drew = wf2 at SF2  ⊢
                        clear ea9 eb9
                        go_wp2
                        go_ret2
                        have e := part_break (ltOf cf) a i2 j2 dk2 hi22.out hj22.out (by omega)
                        rw [PF.out, ← AE.out, e]
                        exact ⟨rfl, SF2.out⟩
          · have hj21 : Hid (r1 = Sort.scanDown (fun x => !(ltOf cf) x dk1[a]!) dk1 p1 j1) := (scanDown_end (fun x => !(ltOf cf) x dk1[a]!) dk1 p1 r1 (Or.inl hld1)).symm.trans hsd1.out
            have hgd1 : decide ((p1 : Int) ≤ (r1 : Int)) = false := decide_eq_false (by omega)
            have hgt1 : decide ((r1 : Int) < (p1 : Int)) = true := decide_eq_true (by omega)
            have hgn1 : decide (r1 < p1) = true := decide_eq_true (by omega)
            clear hsd1
            go_wp2_with fail
            go_big_region_o
            have SE1 : Aside (SW enc w0 blk off dk1 wr.drew) := SD1.out.drew
            clear SD1
            generalize wr.drew = we1 at SE1 ⊢
            go_wp2_with fail
            obtain ⟨i10, j10, x10, y10, u10, ea10, pa10, ba10, ra10, eb10, pb10, bb10, rb10, ca10, cb10, fa10, fb10, cu10, SF1⟩ := turn SE1 R (D := (d.size : Int)) (by omega) (by omega) ((r1 : Int)) ((a : Int)) (r1) (a) (by omega) (by omega) (by omega) (by omega) (by omega)
            clear SE1
            go_wp2_with fail
            go_big_region_o
            clear ca10 cb10 cu10 fa10 fb10
            
            generalize ((we1.setCell ⟨blk, off + i10, none⟩ (enc y10)).setCell ⟨blk, off + j10, none⟩ (enc x10)).drew = wf1 at SF1  ⊢
            clear ea10 eb10
            go_wp2
            go_ret2
            have e := part_first_break (ltOf cf) d a b pivot Hi.out Hj.out Hdk.out hi21.out hj21.out (by omega)
            rw [e]
            exact ⟨rfl, SF1.out⟩
    · have hi21 : Hid (p1 = Sort.scanUp (fun x => (ltOf cf) x dk1[a]!) dk1 j1 i1) := (scanUp_end (fun x => (ltOf cf) x dk1[a]!) dk1 j1 p1 (Or.inl hle1)).symm.trans hsc1.out
      have hgu1 : decide ((p1 : Int) ≤ (j1 : Int)) = false := decide_eq_false (by omega)
      clear hsc1
      go_wp2_with fail
      go_big_region_o
      have SV1 : Aside (SW enc w0 blk off dk1 wr.drew) := SU1.out.drew
      clear SU1
      generalize wr.drew = wv1 at SV1 ⊢
      go_wp2
      go_loopw [13] (fun vj w2 => ∃ (r1 : Nat), vj = .int .i64 r1 ∧ r1 ≤ j1 ∧ p1 ≤ r1 + 1 ∧ Aside (SW enc w0 blk off dk1 w2) ∧
          Hid (Sort.scanDown (fun x => !(ltOf cf) x dk1[a]!) dk1 p1 r1 = Sort.scanDown (fun x => !(ltOf cf) x dk1[a]!) dk1 p1 j1))
        (fun vj _ => (intOf vj).toNat)
      case atStart => exact ⟨j1, rfl, Nat.le_refl _, hiq1, SV1, rfl⟩
      case round =>
        clear SV1
        obtain ⟨r1, rfl, hjj1, hir1, SD1, hsd1⟩ := hrel
        by_cases hld1 : p1 ≤ r1
        · exfalso; omega
        · have hj21 : Hid (r1 = Sort.scanDown (fun x => !(ltOf cf) x dk1[a]!) dk1 p1 j1) := (scanDown_end (fun x => !(ltOf cf) x dk1[a]!) dk1 p1 r1 (Or.inl hld1)).symm.trans hsd1.out
          have hgd1 : decide ((p1 : Int) ≤ (r1 : Int)) = false := decide_eq_false (by omega)
          have hgt1 : decide ((r1 : Int) < (p1 : Int)) = true := decide_eq_true (by omega)
          have hgn1 : decide (r1 < p1) = true := decide_eq_true (by omega)
          clear hsd1
          go_wp2_with fail
          go_big_region_o
          have SE1 : Aside (SW enc w0 blk off dk1 wr.drew) := SD1.out.drew
          clear SD1
          generalize wr.drew = we1 at SE1 ⊢
          go_wp2_with fail
          obtain ⟨i11, j11, x11, y11, u11, ea11, pa11, ba11, ra11, eb11, pb11, bb11, rb11, ca11, cb11, fa11, fb11, cu11, SF1⟩ := turn SE1 R (D := (d.size : Int)) (by omega) (by omega) ((r1 : Int)) ((a : Int)) (r1) (a) (by omega) (by omega) (by omega) (by omega) (by omega)
          clear SE1
          go_wp2_with fail
          go_big_region_o
          clear ca11 cb11 cu11 fa11 fb11
          
          generalize ((we1.setCell ⟨blk, off + i11, none⟩ (enc y11)).setCell ⟨blk, off + j11, none⟩ (enc x11)).drew = wf1 at SF1  ⊢
          clear ea11 eb11
          go_wp2
          go_ret2
          have e := part_first_break (ltOf cf) d a b pivot Hi.out Hj.out Hdk.out hi21.out hj21.out (by omega)
          rw [e]
          exact ⟨rfl, SF1.out⟩
end Ms
end Go.Proofs.YtnmcajinaigcjaaGreatDoor

/- slices.partitionEqualCmpFunc with a method value. -/
import Derived.Test.YtnmcajinaigcjaaGreatDoorMKit
import Derived.Shelf.SlSortFuncK.PartitionK
import Derived.Sort.WalkC4
import Derived.Sort.WalkB2
import Derived.Sort.WalkB12
namespace Go.Proofs.YtnmcajinaigcjaaGreatDoor
open Go Go.Shelf Go.RowKit Go.Lib Go.Sort
namespace Ms
variable {P : Program} {ρ : Ren} {α : Type} [Inhabited α]

set_option maxHeartbeats 16000000 in
set_option maxRecDepth 1000000 in
/-- partitionEqual -/
theorem partitionEqual_m (L : SlLaysF.n26 P ρ) (enc : α → Value) (cf : α → α → Int) (g : Nat) (rv : Value) (blk off cap : Nat) (a b pivot : Nat) (d0 d : Array α) (w0 w : World)
    (eg : ∀ args w, (callFunc g args).run P w = .ok (.enter g args) w) (hcmp : CmpM P g rv enc cf blk off d0.size w0) (R : Row1 enc w0 blk off d0) (hs : d0.size = d.size) (S : SW enc w0 blk off d w) (hap : a ≤ pivot) (hpb : pivot < b) (hb : b ≤ d.size) (hsz : d.size < 4611686018427387904) :
    Calls P (ρ.f 26) #[.slice (some ⟨blk, off, none⟩) d.size cap, .int .i64 a, .int .i64 b, .int .i64 pivot, .func (.func g) #[rv] #[]] w fun e w' => e = .returned (.int .i64 (Sort.partitionEqual (ltOf cf) d a b pivot).1) ∧ SW enc w0 blk off (Sort.partitionEqual (ltOf cf) d a b pivot).2 w' := by
  have mixed := L.mixed; have t0 := L.t0; have a0 := L.a0; have z0 := L.z0; have v0 := L.v0; have t3 := L.t3; have a3 := L.a3; have z3 := L.z3; have v3 := L.v3; have t4 := L.t4; have a4 := L.a4; have z4 := L.z4; have v4 := L.v4; have t22 := L.t22; have a22 := L.a22; have z22 := L.z22; have v22 := L.v22; have a24 := L.a24; have z24 := L.z24; have t25 := L.t25; have a25 := L.a25; have z25 := L.z25; have v25 := L.v25
  have u22 := run_underlying L.t22
  have hcl0 := R.hO.cells
  simp only [Value.cells] at hcl0
  have hst := R.hO.store P
  obtain ⟨_, _, FG⟩ := L.f26
  have HC : Aside _ := hcmp
  have S0 : Aside (SW enc w0 blk off d w) := S
  clear S hcmp
  go_enter FG, SlBodyF.n26_ntmps ρ
  go_wp2_with fail
  obtain ⟨i1, j1, x1, y1, u1, ea1, pa1, ba1, ra1, eb1, pb1, bb1, rb1, ca1, cb1, fa1, fb1, cu1, S1⟩ := turn S0 R (D := (d.size : Int)) (by omega) (by omega) ((a : Int)) ((pivot : Int)) (a) (pivot) (by omega) (by omega) (by omega) (by omega) (by omega)
  clear S0
  go_wp2_with fail
  go_big_region_o
  clear ca1 cb1 cu1 fa1 fb1
  
  generalize ((w.setCell ⟨blk, off + i1, none⟩ (enc y1)).setCell ⟨blk, off + j1, none⟩ (enc x1)).drew = w1 at S1  ⊢
  clear ea1 eb1
  go_wp2
  go_loopw [11, 12] (fun vi vj wr => ∃ (i j : Nat) (dk : Array α), vi = .int .i64 i ∧ vj = .int .i64 j ∧ a < i ∧ i ≤ j + 1 ∧ j < b ∧ dk.size = d.size ∧ Aside (SW enc w0 blk off dk wr) ∧
      Sort.partEqLoop (ltOf cf) a i j dk = Sort.partEqLoop (ltOf cf) a (a + 1) (b - 1) (Sort.swp d a pivot))
    (fun vi vj _ => (intOf vj).toNat + 1 - (intOf vi).toNat)
  case atStart => exact ⟨a + 1, b - 1, Sort.swp d a pivot, by go_num, by go_num, by omega, by omega, by omega, size_swp _ _ _, S1, rfl⟩
  case round =>
    clear S1
    obtain ⟨i, j, dk, rfl, rfl, hai, hij, hjb, hs', S1, heq⟩ := hrel
    have AE : Hid (Sort.partEqLoop (ltOf cf) a i j dk = Sort.partEqLoop (ltOf cf) a (a + 1) (b - 1) (Sort.swp d a pivot)) := heq
    clear heq
    go_wp2
    go_loopw [11] (fun vi w1 => ∃ (p1 : Nat), vi = .int .i64 p1 ∧ i ≤ p1 ∧ p1 ≤ j + 1 ∧ Aside (SW enc w0 blk off dk w1) ∧
        Hid (Sort.scanUp (fun x => !(ltOf cf) dk[a]! x) dk j p1 = Sort.scanUp (fun x => !(ltOf cf) dk[a]! x) dk j i))
      (fun vi _ => j + 1 - (intOf vi).toNat)
    case atStart => exact ⟨i, rfl, Nat.le_refl _, hij, S1, rfl⟩
    case round =>
      clear S1
      obtain ⟨p1, rfl, hii1, hiq1, SU1, hsc1⟩ := hrel
      by_cases hle1 : p1 ≤ j
      · have hgu1 : decide ((p1 : Int) ≤ (j : Int)) = true := decide_eq_true (by omega)
        obtain ⟨i2, j2, x2, y2, q2, ea2, pa2, ba2, ra2, eb2, pb2, bb2, rb2, la2, lb2, hc2, hd2, hq2⟩ := look SU1 HC R (D := (d.size : Int)) (by omega) (by omega) ((a : Int)) ((p1 : Int)) (a) (p1) (by omega) (by omega) (by omega) (by omega) (by omega)
        have hq2 : Aside _ := hq2
        go_wp2_with fail
        go_quiet_grown (first | (go_at_fn g; refine Calls.grown_of (hc2 _ _)))
        have SV1 : Aside (SW enc w0 blk off dk (grow (wr.drewN nq) osq)) := SU1.out.grown nq osq
        clear la2 lb2 hc2 SU1 
        generalize grow (wr.drewN nq) osq = wv1 at SV1  ⊢
        clear nq osq
        clear ea2 eb2
        cases q2 with
        | false =>
          (try simp only [Bool.not_false])
          go_wp2
          go_roundw
          case rel => exact ⟨p1 + 1, by go_num, by omega, by omega, SV1, (scanUp_go (fun x => !(ltOf cf) dk[a]! x) dk j p1 hle1 (by simp [hq2.out])).symm.trans hsc1.out⟩
          case measure => simp [intOf]; omega
        | true =>
          (try simp only [Bool.not_true])
          have hi21 : Hid (p1 = Sort.scanUp (fun x => !(ltOf cf) dk[a]! x) dk j i) := (scanUp_end (fun x => !(ltOf cf) dk[a]! x) dk j p1 (Or.inr (by simp [hq2.out]))).symm.trans hsc1.out
          clear hsc1
          go_wp2
          go_loopw [12] (fun vj w2 => ∃ (r1 : Nat), vj = .int .i64 r1 ∧ r1 ≤ j ∧ p1 ≤ r1 + 1 ∧ Aside (SW enc w0 blk off dk w2) ∧
              Hid (Sort.scanDown (fun x => (ltOf cf) dk[a]! x) dk p1 r1 = Sort.scanDown (fun x => (ltOf cf) dk[a]! x) dk p1 j))
            (fun vj _ => (intOf vj).toNat)
          case atStart => exact ⟨j, rfl, Nat.le_refl _, hiq1, SV1, rfl⟩
          case round =>
            clear SV1
            obtain ⟨r1, rfl, hjj1, hir1, SD1, hsd1⟩ := hrel
            by_cases hld1 : p1 ≤ r1
            · have hgd1 : decide ((p1 : Int) ≤ (r1 : Int)) = true := decide_eq_true (by omega)
              obtain ⟨i3, j3, x3, y3, q3, ea3, pa3, ba3, ra3, eb3, pb3, bb3, rb3, la3, lb3, hc3, hd3, hq3⟩ := look SD1 HC R (D := (d.size : Int)) (by omega) (by omega) ((a : Int)) ((r1 : Int)) (a) (r1) (by omega) (by omega) (by omega) (by omega) (by omega)
              have hq3 : Aside _ := hq3
              go_wp2_with fail
              go_quiet_grown (first | (go_at_fn g; refine Calls.grown_of (hc3 _ _)))
              have SE1 : Aside (SW enc w0 blk off dk (grow (wr.drewN nq) osq)) := SD1.out.grown nq osq
              clear la3 lb3 hc3 SD1 
              generalize grow (wr.drewN nq) osq = we1 at SE1  ⊢
              clear nq osq
              clear ea3 eb3
              cases q3 with
              | true =>
                (try simp only [Bool.not_true])
                go_wp2
                go_roundw
                case rel => exact ⟨r1 - 1, by go_num, by omega, by omega, SE1, (scanDown_go (fun x => (ltOf cf) dk[a]! x) dk p1 r1 hld1 (by omega) (by simp [hq3.out])).symm.trans hsd1.out⟩
                case measure => simp [intOf]; omega
              | false =>
                (try simp only [Bool.not_false])
                have hj21 : Hid (r1 = Sort.scanDown (fun x => (ltOf cf) dk[a]! x) dk p1 j) := (scanDown_end (fun x => (ltOf cf) dk[a]! x) dk p1 r1 (Or.inr (by simp [hq3.out]))).symm.trans hsd1.out
                clear hsd1
                have hlt3 := scans_lt (ltOf cf) a i j dk (by omega) hi21.out hj21.out hld1
                go_wp2_with fail
                obtain ⟨i4, j4, x4, y4, u4, ea4, pa4, ba4, ra4, eb4, pb4, bb4, rb4, ca4, cb4, fa4, fb4, cu4, SF1⟩ := turn SE1 R (D := (d.size : Int)) (by omega) (by omega) ((p1 : Int)) ((r1 : Int)) (p1) (r1) (by omega) (by omega) (by omega) (by omega) (by omega)
                clear SE1
                go_wp2_with fail
                go_big_region_o
                clear ca4 cb4 cu4 fa4 fb4
                
                generalize ((we1.setCell ⟨blk, off + i4, none⟩ (enc y4)).setCell ⟨blk, off + j4, none⟩ (enc x4)).drew = wf1 at SF1  ⊢
                clear ea4 eb4
                go_wp2
                go_roundw
                case rel =>
                  refine ⟨p1 + 1, r1 - 1, Sort.swp dk p1 r1, by go_num, by go_num, by omega, by omega, by omega, by rw [size_swp]; exact hs', SF1, ?_⟩
                  rw [← AE.out]; exact (partEq_go (ltOf cf) a i j dk hi21.out hj21.out (by omega)).symm
                case measure => simp [intOf]; omega
            · have hj21 : Hid (r1 = Sort.scanDown (fun x => (ltOf cf) dk[a]! x) dk p1 j) := (scanDown_end (fun x => (ltOf cf) dk[a]! x) dk p1 r1 (Or.inl hld1)).symm.trans hsd1.out
              have hgd1 : decide ((p1 : Int) ≤ (r1 : Int)) = false := decide_eq_false (by omega)
              have hgt1 : decide ((r1 : Int) < (p1 : Int)) = true := decide_eq_true (by omega)
              have hgn1 : decide (r1 < p1) = true := decide_eq_true (by omega)
              clear hsd1
              go_wp2_with fail
              go_big_region_o
              have SE1 : Aside (SW enc w0 blk off dk wr.drew) := SD1.out.drew
              clear SD1
              generalize wr.drew = we1 at SE1 ⊢
              go_wp2
              go_ret
              have e := partEq_break (ltOf cf) a i j dk hi21.out hj21.out (by omega)
              refine ⟨?_, ?_⟩
              · unfold Sort.partitionEqual; rw [← AE.out, e]; rfl
              · unfold Sort.partitionEqual; rw [← AE.out, e]; exact SE1.out
      · have hi21 : Hid (p1 = Sort.scanUp (fun x => !(ltOf cf) dk[a]! x) dk j i) := (scanUp_end (fun x => !(ltOf cf) dk[a]! x) dk j p1 (Or.inl hle1)).symm.trans hsc1.out
        have hgu1 : decide ((p1 : Int) ≤ (j : Int)) = false := decide_eq_false (by omega)
        clear hsc1
        go_wp2_with fail
        go_big_region_o
        have SV1 : Aside (SW enc w0 blk off dk wr.drew) := SU1.out.drew
        clear SU1
        generalize wr.drew = wv1 at SV1 ⊢
        go_wp2
        go_loopw [12] (fun vj w2 => ∃ (r1 : Nat), vj = .int .i64 r1 ∧ r1 ≤ j ∧ p1 ≤ r1 + 1 ∧ Aside (SW enc w0 blk off dk w2) ∧
            Hid (Sort.scanDown (fun x => (ltOf cf) dk[a]! x) dk p1 r1 = Sort.scanDown (fun x => (ltOf cf) dk[a]! x) dk p1 j))
          (fun vj _ => (intOf vj).toNat)
        case atStart => exact ⟨j, rfl, Nat.le_refl _, hiq1, SV1, rfl⟩
        case round =>
          clear SV1
          obtain ⟨r1, rfl, hjj1, hir1, SD1, hsd1⟩ := hrel
          by_cases hld1 : p1 ≤ r1
          · exfalso; omega
          · have hj21 : Hid (r1 = Sort.scanDown (fun x => (ltOf cf) dk[a]! x) dk p1 j) := (scanDown_end (fun x => (ltOf cf) dk[a]! x) dk p1 r1 (Or.inl hld1)).symm.trans hsd1.out
            have hgd1 : decide ((p1 : Int) ≤ (r1 : Int)) = false := decide_eq_false (by omega)
            have hgt1 : decide ((r1 : Int) < (p1 : Int)) = true := decide_eq_true (by omega)
            have hgn1 : decide (r1 < p1) = true := decide_eq_true (by omega)
            clear hsd1
            go_wp2_with fail
            go_big_region_o
            have SE1 : Aside (SW enc w0 blk off dk wr.drew) := SD1.out.drew
            clear SD1
            generalize wr.drew = we1 at SE1 ⊢
            go_wp2
            go_ret
            have e := partEq_break (ltOf cf) a i j dk hi21.out hj21.out (by omega)
            refine ⟨?_, ?_⟩
            · unfold Sort.partitionEqual; rw [← AE.out, e]; rfl
            · unfold Sort.partitionEqual; rw [← AE.out, e]; exact SE1.out
end Ms
end Go.Proofs.YtnmcajinaigcjaaGreatDoor

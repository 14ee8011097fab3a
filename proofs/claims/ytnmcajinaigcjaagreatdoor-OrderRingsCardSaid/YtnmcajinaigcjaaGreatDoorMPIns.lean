/- slices.partialInsertionSortCmpFunc with a method value. -/
import Derived.Test.YtnmcajinaigcjaaGreatDoorMKit
import Derived.Shelf.SlSortCmp.PartialInsertion1
namespace Go.Proofs.YtnmcajinaigcjaaGreatDoor
open Go Go.Shelf Go.RowKit Go.Lib Go.Sort
namespace Ms
variable {P : Program} {ρ : Ren} {α : Type} [Inhabited α]

set_option maxHeartbeats 16000000 in
set_option maxRecDepth 1000000 in
/-- partialInsertionSort -/
theorem partialInsertionSort_m (L : SlLaysF.n25 P ρ) (enc : α → Value) (cf : α → α → Int) (g : Nat) (rv : Value) (blk off cap : Nat) (a b : Nat) (d0 d : Array α) (w0 w : World)
    (eg : ∀ args w, (callFunc g args).run P w = .ok (.enter g args) w) (hcmp : CmpM P g rv enc cf blk off d0.size w0) (R : Row1 enc w0 blk off d0) (hs : d0.size = d.size) (S : SW enc w0 blk off d w) (hab : a < b) (hb : b ≤ d.size) (hsz : d.size < 4611686018427387904) :
    Calls P (ρ.f 25) #[.slice (some ⟨blk, off, none⟩) d.size cap, .int .i64 a, .int .i64 b, .func (.func g) #[rv] #[]] w fun e w' => e = .returned (.bool (Sort.partialInsertionSort (ltOf cf) d a b).2) ∧ SW enc w0 blk off (Sort.partialInsertionSort (ltOf cf) d a b).1 w' := by
  have mixed := L.mixed; have t0 := L.t0; have a0 := L.a0; have z0 := L.z0; have v0 := L.v0; have t3 := L.t3; have a3 := L.a3; have z3 := L.z3; have v3 := L.v3; have t4 := L.t4; have a4 := L.a4; have z4 := L.z4; have v4 := L.v4; have t22 := L.t22; have a22 := L.a22; have z22 := L.z22; have v22 := L.v22; have a24 := L.a24; have z24 := L.z24; have t25 := L.t25; have a25 := L.a25; have z25 := L.z25; have v25 := L.v25
  have u22 := run_underlying L.t22
  have hcl0 := R.hO.cells
  simp only [Value.cells] at hcl0
  have hst := R.hO.store P
  obtain ⟨_, _, FG⟩ := L.f25
  have HC : Aside _ := hcmp
  have S0 : Aside (SW enc w0 blk off d w) := S
  clear S hcmp
  go_enter FG, SlBodyF.n25_ntmps ρ
  go_wp2
  go_loopg [9, 10] 5 (fun g1 vi vs wr => ∃ (i s : Nat) (dk : Array α), vi = .int .i64 i ∧ vs = .int .i64 s ∧ s ≤ 5 ∧ 5 - s ≤ g1 ∧ a < i ∧ i ≤ b ∧ dk.size = d.size ∧ Aside (SW enc w0 blk off dk wr) ∧ Hid (partialIns (ltOf cf) a b (5 - s) i dk = partialIns (ltOf cf) a b 5 (a + 1) d))
  case atStart => exact ⟨a + 1, 0, d, by first | rfl | go_num | (congr 1; omega), rfl, by omega, by omega, by omega, by omega, rfl, S0, rfl⟩
  case round =>
    clear S0
    obtain ⟨i, s, dk, rfl, rfl, hs5, hg1, hai, hib, hsk, S1, HO⟩ := hrel
    by_cases hss : s < 5
    · have hsz5 : (s : Int) < 5 := by omega
      go_wp2
      go_loopg [9] (b - i) (fun g2 vi wr2 => ∃ (k : Nat), vi = .int .i64 k ∧ i ≤ k ∧ k ≤ b ∧ b - k ≤ g2 ∧ Aside (SW enc w0 blk off dk wr2) ∧ Hid (scanSorted (ltOf cf) dk b k = scanSorted (ltOf cf) dk b i))
      case atStart => exact ⟨i, rfl, Nat.le_refl _, hib, Nat.le_refl _, S1, rfl⟩
      case round =>
        clear S1
        obtain ⟨k, rfl, hik, hkb, hg2, S1, HSc⟩ := hrel
        by_cases hkb' : k < b
        · have hkz : (k : Int) < (b : Int) := by omega
          obtain ⟨kp, hkp⟩ : ∃ q, q + 1 = k := ⟨k - 1, by omega⟩
          have zkp : (k : Int) = (kp : Int) + 1 := by omega
          have hkd : decide ((kp : Int) + 1 < (b : Int)) = true := decide_eq_true (by omega)
          obtain ⟨i1, j1, x1, y1, q1, ea1, pa1, ba1, ra1, eb1, pb1, bb1, rb1, la1, lb1, hc1, hd1, hq1⟩ := look S1 HC R (D := (d.size : Int)) (by omega) (by omega) ((kp : Int) + 1) ((kp : Int)) (k) (k - 1) (by omega) (by omega) (by omega) (by omega) (by omega)
          have hq1 : Aside _ := hq1
          go_wp2_with fail
          go_quiet_grown (first | (go_at_fn g; refine Calls.grown_of (hc1 _ _)))
          have S2 : Aside (SW enc w0 blk off dk (grow (wr.drewN nq) osq)) := S1.out.grown nq osq
          clear la1 lb1 hc1 S1 
          generalize grow (wr.drewN nq) osq = w2 at S2  ⊢
          clear nq osq
          clear ea1 eb1
          cases q1 with
          | false =>
            (try simp only [Bool.not_false])
            go_wp2
            go_roundg (b - (k + 1))
            case measure => omega
            case rel => exact ⟨k + 1, by first | rfl | go_num | (congr 1; omega), by omega, by omega, Nat.le_refl _, S2, (show Hid _ from by rw [← HSc.out, scanSorted_go (ltOf cf) dk b k hkb' hq1.out]; exact rfl)⟩
          | true =>
            (try simp only [Bool.not_true])
            have HK : Hid (scanSorted (ltOf cf) dk b i = k) := by show _ = _; rw [← HSc.out, scanSorted_stop (ltOf cf) dk b k (Or.inr hq1.out)]
            have hkne : ((k : Int) == (b : Int)) = false := beq_eq_false_iff_ne.2 (by omega)
            have hkne' : ((kp : Int) + 1 == (b : Int)) = false := beq_eq_false_iff_ne.2 (by omega)
            by_cases h50 : b - a < 50
            · have h50z : (b : Int) - (a : Int) < 50 := by omega
              go_wp2
              have hv : Sort.partialInsertionSort (ltOf cf) d a b = (dk, false) := by
                unfold Sort.partialInsertionSort
                rw [← HO.out, pi_short (ltOf cf) a b s i dk hss (by rw [HK.out]; omega) h50]
              rw [hv]
              go_ret
              exact ⟨rfl, S2.out⟩
            · have h50z : ¬ ((b : Int) - (a : Int) < 50) := by omega
              go_wp2_with fail
              obtain ⟨i2, j2, x2, y2, u2, ea2, pa2, ba2, ra2, eb2, pb2, bb2, rb2, ca2, cb2, fa2, fb2, cu2, S3⟩ := turn S2 R (D := (d.size : Int)) (by omega) (by omega) ((kp : Int) + 1) ((kp : Int)) (k) (k - 1) (by omega) (by omega) (by omega) (by omega) (by omega)
              clear S2
              go_wp2_with fail
              go_big_region_o
              clear ca2 cb2 cu2 fa2 fb2
              
              generalize ((w2.setCell ⟨blk, off + i2, none⟩ (enc y2)).setCell ⟨blk, off + j2, none⟩ (enc x2)).drew = w3 at S3  ⊢
              clear ea2 eb2
              have hX1 : (swp dk k (k - 1)).size = d.size := by rw [size_swp]; exact hsk
              by_cases hka : k - a ≥ 2
              · have hkaz : (2 : Int) ≤ (k : Int) - (a : Int) := by omega
                have hkad : decide ((2 : Int) ≤ (kp : Int) + 1 - (a : Int)) = true := decide_eq_true (by omega)
                go_wp2
                go_loopg [11] (k - 1) (fun g3 vj wr3 => ∃ (j : Nat) (dj : Array α), vj = .int .i64 j ∧ j ≤ k - 1 ∧ j ≤ g3 ∧ dj.size = d.size ∧ Aside (SW enc w0 blk off dj wr3) ∧ Hid (shiftDown (ltOf cf) j dj = shiftDown (ltOf cf) (k - 1) (swp dk k (k - 1))))
                case atStart => exact ⟨k - 1, (swp dk k (k - 1)), by congr 1; omega, Nat.le_refl _, Nat.le_refl _, hX1, S3, rfl⟩
                case round =>
                  clear S3
                  obtain ⟨j, dj, rfl, hjk, hg3, hsj, SD, HDn⟩ := hrel
                  by_cases hj1 : 1 ≤ j
                  · have hj1z : (1 : Int) ≤ (j : Int) := by omega
                    obtain ⟨jp, hjp⟩ : ∃ q, q + 1 = j := ⟨j - 1, by omega⟩
                    have zjp : (j : Int) = (jp : Int) + 1 := by omega
                    have hj1z' : (1 : Int) ≤ (jp : Int) + 1 := by omega
                    go_wp2_with fail
                    obtain ⟨i3, j3, x3, y3, q3, ea3, pa3, ba3, ra3, eb3, pb3, bb3, rb3, la3, lb3, hc3, hd3, hq3⟩ := look SD HC R (D := (d.size : Int)) (by omega) (by omega) ((jp : Int) + 1) ((jp : Int)) (j) (j - 1) (by omega) (by omega) (by omega) (by omega) (by omega)
                    have hq3 : Aside _ := hq3
                    go_wp2_with fail
                    go_quiet_grown (first | (go_at_fn g; refine Calls.grown_of (hc3 _ _)))
                    have SD2 : Aside (SW enc w0 blk off dj (grow (wr.drewN nq) osq)) := SD.out.grown nq osq
                    clear la3 lb3 hc3 SD 
                    generalize grow (wr.drewN nq) osq = wd2 at SD2  ⊢
                    clear nq osq
                    clear ea3 eb3
                    cases q3 with
                    | true =>
                      have hu : Aside ((ltOf cf) dj[j]! dj[j - 1]! = true) := hq3.out
                      go_wp2_with fail
                      obtain ⟨i4, j4, x4, y4, u4, ea4, pa4, ba4, ra4, eb4, pb4, bb4, rb4, ca4, cb4, fa4, fb4, cu4, SD3⟩ := turn SD2 R (D := (d.size : Int)) (by omega) (by omega) ((jp : Int) + 1) ((jp : Int)) (j) (j - 1) (by omega) (by omega) (by omega) (by omega) (by omega)
                      clear SD2
                      go_wp2_with fail
                      go_big_region_o
                      clear ca4 cb4 cu4 fa4 fb4
                      
                      generalize ((wd2.setCell ⟨blk, off + i4, none⟩ (enc y4)).setCell ⟨blk, off + j4, none⟩ (enc x4)).drew = wd3 at SD3  ⊢
                      clear ea4 eb4
                      go_wp2
                      go_roundg (j - 1)
                      case measure => omega
                      case rel => exact ⟨j - 1, swp dj j (j - 1), by first | rfl | go_num | (congr 1; omega), by omega, Nat.le_refl _, by rw [size_swp]; exact hsj, SD3, (show Hid _ from by rw [← HDn.out, shiftDown_go (ltOf cf) j dj hj1 hu.out]; exact rfl)⟩
                    | false =>
                      have HD : Hid (fixDown (ltOf cf) a k (swp dk k (k - 1)) = dj) := by show _ = _; unfold fixDown; rw [if_pos hka, ← HDn.out, shiftDown_stop (ltOf cf) j dj (Or.inr hq3.out)]
                      by_cases hbk : b - k ≥ 2
                      · have hbkz : (2 : Int) ≤ (b : Int) - (k : Int) := by omega
                        have hbkd : decide ((2 : Int) ≤ (b : Int) - ((kp : Int) + 1)) = true := decide_eq_true (by omega)
                        go_wp2
                        go_loopg [12] (b - (k + 1)) (fun g4 vj wr4 => ∃ (ju : Nat) (du : Array α), vj = .int .i64 ju ∧ k + 1 ≤ ju ∧ ju ≤ b ∧ b - ju ≤ g4 ∧ du.size = d.size ∧ Aside (SW enc w0 blk off du wr4) ∧ Hid (shiftUp (ltOf cf) b ju du = shiftUp (ltOf cf) b (k + 1) dj))
                        case atStart => exact ⟨k + 1, dj, by first | rfl | go_num | (congr 1; omega), Nat.le_refl _, by omega, Nat.le_refl _, hsj, SD2, rfl⟩
                        case round =>
                          clear SD2
                          obtain ⟨ju, du, rfl, hkj, hjb, hg4, hsu, SU, HU⟩ := hrel
                          by_cases hjb' : ju < b
                          · have hjz : (ju : Int) < (b : Int) := by omega
                            obtain ⟨jup, hjup⟩ : ∃ q, q + 1 = ju := ⟨ju - 1, by omega⟩
                            have zjup : (ju : Int) = (jup : Int) + 1 := by omega
                            have hjz' : (jup : Int) + 1 < (b : Int) := by omega
                            go_wp2_with fail
                            obtain ⟨i5, j5, x5, y5, q5, ea5, pa5, ba5, ra5, eb5, pb5, bb5, rb5, la5, lb5, hc5, hd5, hq5⟩ := look SU HC R (D := (d.size : Int)) (by omega) (by omega) ((jup : Int) + 1) ((jup : Int)) (ju) (ju - 1) (by omega) (by omega) (by omega) (by omega) (by omega)
                            have hq5 : Aside _ := hq5
                            go_wp2_with fail
                            go_quiet_grown (first | (go_at_fn g; refine Calls.grown_of (hc5 _ _)))
                            have SU2 : Aside (SW enc w0 blk off du (grow (wr.drewN nq) osq)) := SU.out.grown nq osq
                            clear la5 lb5 hc5 SU 
                            generalize grow (wr.drewN nq) osq = wu2 at SU2  ⊢
                            clear nq osq
                            clear ea5 eb5
                            cases q5 with
                            | true =>
                              have hu : Aside ((ltOf cf) du[ju]! du[ju - 1]! = true) := hq5.out
                              go_wp2_with fail
                              obtain ⟨i6, j6, x6, y6, u6, ea6, pa6, ba6, ra6, eb6, pb6, bb6, rb6, ca6, cb6, fa6, fb6, cu6, SU3⟩ := turn SU2 R (D := (d.size : Int)) (by omega) (by omega) ((jup : Int) + 1) ((jup : Int)) (ju) (ju - 1) (by omega) (by omega) (by omega) (by omega) (by omega)
                              clear SU2
                              go_wp2_with fail
                              go_big_region_o
                              clear ca6 cb6 cu6 fa6 fb6
                              
                              generalize ((wu2.setCell ⟨blk, off + i6, none⟩ (enc y6)).setCell ⟨blk, off + j6, none⟩ (enc x6)).drew = wu3 at SU3  ⊢
                              clear ea6 eb6
                              go_wp2
                              go_roundg (b - (ju + 1))
                              case measure => omega
                              case rel => exact ⟨ju + 1, swp du ju (ju - 1), by first | rfl | go_num | (congr 1; omega), by omega, by omega, Nat.le_refl _, by rw [size_swp]; exact hsu, SU3, (show Hid _ from by rw [← HU.out, shiftUp_go (ltOf cf) b ju du hjb' hu.out]; exact rfl)⟩
                            | false =>
                              go_wp2
                              go_roundg (5 - (s + 1))
                              case measure => omega
                              case rel => exact ⟨k, s + 1, du, by first | rfl | (congr 1; omega), by first | rfl | go_num | (congr 1; omega), by omega, Nat.le_refl _, by omega, by omega, hsu, SU2, (show Hid _ from by rw [← HO.out, pi_go (ltOf cf) a b s i k dk hss HK.out (by omega) h50, HD.out, show fixUp (ltOf cf) b k dj = du from by unfold fixUp; rw [if_pos hbk, ← HU.out, shiftUp_stop (ltOf cf) b ju du (Or.inr hq5.out)]]; exact rfl)⟩
                          · have hjz : ¬ (ju : Int) < (b : Int) := by omega
                            go_wp2
                            go_roundg (5 - (s + 1))
                            case measure => omega
                            case rel => exact ⟨k, s + 1, du, by first | rfl | (congr 1; omega), by first | rfl | go_num | (congr 1; omega), by omega, Nat.le_refl _, by omega, by omega, hsu, SU, (show Hid _ from by rw [← HO.out, pi_go (ltOf cf) a b s i k dk hss HK.out (by omega) h50, HD.out, show fixUp (ltOf cf) b k dj = du from by unfold fixUp; rw [if_pos hbk, ← HU.out, shiftUp_stop (ltOf cf) b ju du (Or.inl hjb')]]; exact rfl)⟩
                      · have hbkz : ¬ (2 : Int) ≤ (b : Int) - (k : Int) := by omega
                        have hbkd : decide ((2 : Int) ≤ (b : Int) - ((kp : Int) + 1)) = false := decide_eq_false (by omega)
                        go_wp2
                        go_roundg (5 - (s + 1))
                        case measure => omega
                        case rel => exact ⟨k, s + 1, dj, by first | rfl | (congr 1; omega), by first | rfl | go_num | (congr 1; omega), by omega, Nat.le_refl _, by omega, by omega, hsj, SD2, (show Hid _ from by rw [← HO.out, pi_go (ltOf cf) a b s i k dk hss HK.out (by omega) h50, HD.out, show fixUp (ltOf cf) b k dj = dj from by unfold fixUp; rw [if_neg hbk]]; exact rfl)⟩
                  · have hj1z : ¬ (1 : Int) ≤ (j : Int) := by omega
                    have HD : Hid (fixDown (ltOf cf) a k (swp dk k (k - 1)) = dj) := by show _ = _; unfold fixDown; rw [if_pos hka, ← HDn.out, shiftDown_stop (ltOf cf) j dj (Or.inl (by omega))]
                    by_cases hbk : b - k ≥ 2
                    · have hbkz : (2 : Int) ≤ (b : Int) - (k : Int) := by omega
                      have hbkd : decide ((2 : Int) ≤ (b : Int) - ((kp : Int) + 1)) = true := decide_eq_true (by omega)
                      go_wp2
                      go_loopg [12] (b - (k + 1)) (fun g4 vj wr4 => ∃ (ju : Nat) (du : Array α), vj = .int .i64 ju ∧ k + 1 ≤ ju ∧ ju ≤ b ∧ b - ju ≤ g4 ∧ du.size = d.size ∧ Aside (SW enc w0 blk off du wr4) ∧ Hid (shiftUp (ltOf cf) b ju du = shiftUp (ltOf cf) b (k + 1) dj))
                      case atStart => exact ⟨k + 1, dj, by first | rfl | go_num | (congr 1; omega), Nat.le_refl _, by omega, Nat.le_refl _, hsj, SD, rfl⟩
                      case round =>
                        clear SD
                        obtain ⟨ju, du, rfl, hkj, hjb, hg4, hsu, SU, HU⟩ := hrel
                        by_cases hjb' : ju < b
                        · have hjz : (ju : Int) < (b : Int) := by omega
                          obtain ⟨jup, hjup⟩ : ∃ q, q + 1 = ju := ⟨ju - 1, by omega⟩
                          have zjup : (ju : Int) = (jup : Int) + 1 := by omega
                          have hjz' : (jup : Int) + 1 < (b : Int) := by omega
                          go_wp2_with fail
                          obtain ⟨i7, j7, x7, y7, q7, ea7, pa7, ba7, ra7, eb7, pb7, bb7, rb7, la7, lb7, hc7, hd7, hq7⟩ := look SU HC R (D := (d.size : Int)) (by omega) (by omega) ((jup : Int) + 1) ((jup : Int)) (ju) (ju - 1) (by omega) (by omega) (by omega) (by omega) (by omega)
                          have hq7 : Aside _ := hq7
                          go_wp2_with fail
                          go_quiet_grown (first | (go_at_fn g; refine Calls.grown_of (hc7 _ _)))
                          have SU2 : Aside (SW enc w0 blk off du (grow (wr.drewN nq) osq)) := SU.out.grown nq osq
                          clear la7 lb7 hc7 SU 
                          generalize grow (wr.drewN nq) osq = wu2 at SU2  ⊢
                          clear nq osq
                          clear ea7 eb7
                          cases q7 with
                          | true =>
                            have hu : Aside ((ltOf cf) du[ju]! du[ju - 1]! = true) := hq7.out
                            go_wp2_with fail
                            obtain ⟨i8, j8, x8, y8, u8, ea8, pa8, ba8, ra8, eb8, pb8, bb8, rb8, ca8, cb8, fa8, fb8, cu8, SU3⟩ := turn SU2 R (D := (d.size : Int)) (by omega) (by omega) ((jup : Int) + 1) ((jup : Int)) (ju) (ju - 1) (by omega) (by omega) (by omega) (by omega) (by omega)
                            clear SU2
                            go_wp2_with fail
                            go_big_region_o
                            clear ca8 cb8 cu8 fa8 fb8
                            
                            generalize ((wu2.setCell ⟨blk, off + i8, none⟩ (enc y8)).setCell ⟨blk, off + j8, none⟩ (enc x8)).drew = wu3 at SU3  ⊢
                            clear ea8 eb8
                            go_wp2
                            go_roundg (b - (ju + 1))
                            case measure => omega
                            case rel => exact ⟨ju + 1, swp du ju (ju - 1), by first | rfl | go_num | (congr 1; omega), by omega, by omega, Nat.le_refl _, by rw [size_swp]; exact hsu, SU3, (show Hid _ from by rw [← HU.out, shiftUp_go (ltOf cf) b ju du hjb' hu.out]; exact rfl)⟩
                          | false =>
                            go_wp2
                            go_roundg (5 - (s + 1))
                            case measure => omega
                            case rel => exact ⟨k, s + 1, du, by first | rfl | (congr 1; omega), by first | rfl | go_num | (congr 1; omega), by omega, Nat.le_refl _, by omega, by omega, hsu, SU2, (show Hid _ from by rw [← HO.out, pi_go (ltOf cf) a b s i k dk hss HK.out (by omega) h50, HD.out, show fixUp (ltOf cf) b k dj = du from by unfold fixUp; rw [if_pos hbk, ← HU.out, shiftUp_stop (ltOf cf) b ju du (Or.inr hq7.out)]]; exact rfl)⟩
                        · have hjz : ¬ (ju : Int) < (b : Int) := by omega
                          go_wp2
                          go_roundg (5 - (s + 1))
                          case measure => omega
                          case rel => exact ⟨k, s + 1, du, by first | rfl | (congr 1; omega), by first | rfl | go_num | (congr 1; omega), by omega, Nat.le_refl _, by omega, by omega, hsu, SU, (show Hid _ from by rw [← HO.out, pi_go (ltOf cf) a b s i k dk hss HK.out (by omega) h50, HD.out, show fixUp (ltOf cf) b k dj = du from by unfold fixUp; rw [if_pos hbk, ← HU.out, shiftUp_stop (ltOf cf) b ju du (Or.inl hjb')]]; exact rfl)⟩
                    · have hbkz : ¬ (2 : Int) ≤ (b : Int) - (k : Int) := by omega
                      have hbkd : decide ((2 : Int) ≤ (b : Int) - ((kp : Int) + 1)) = false := decide_eq_false (by omega)
                      go_wp2
                      go_roundg (5 - (s + 1))
                      case measure => omega
                      case rel => exact ⟨k, s + 1, dj, by first | rfl | (congr 1; omega), by first | rfl | go_num | (congr 1; omega), by omega, Nat.le_refl _, by omega, by omega, hsj, SD, (show Hid _ from by rw [← HO.out, pi_go (ltOf cf) a b s i k dk hss HK.out (by omega) h50, HD.out, show fixUp (ltOf cf) b k dj = dj from by unfold fixUp; rw [if_neg hbk]]; exact rfl)⟩
              · have hkaz : ¬ (2 : Int) ≤ (k : Int) - (a : Int) := by omega
                have hkad : decide ((2 : Int) ≤ (kp : Int) + 1 - (a : Int)) = false := decide_eq_false (by omega)
                have HD : Hid (fixDown (ltOf cf) a k (swp dk k (k - 1)) = (swp dk k (k - 1))) := by show _ = _; unfold fixDown; rw [if_neg hka]
                by_cases hbk : b - k ≥ 2
                · have hbkz : (2 : Int) ≤ (b : Int) - (k : Int) := by omega
                  have hbkd : decide ((2 : Int) ≤ (b : Int) - ((kp : Int) + 1)) = true := decide_eq_true (by omega)
                  go_wp2
                  go_loopg [12] (b - (k + 1)) (fun g4 vj wr4 => ∃ (ju : Nat) (du : Array α), vj = .int .i64 ju ∧ k + 1 ≤ ju ∧ ju ≤ b ∧ b - ju ≤ g4 ∧ du.size = d.size ∧ Aside (SW enc w0 blk off du wr4) ∧ Hid (shiftUp (ltOf cf) b ju du = shiftUp (ltOf cf) b (k + 1) (swp dk k (k - 1))))
                  case atStart => exact ⟨k + 1, (swp dk k (k - 1)), by first | rfl | go_num | (congr 1; omega), Nat.le_refl _, by omega, Nat.le_refl _, hX1, S3, rfl⟩
                  case round =>
                    clear S3
                    obtain ⟨ju, du, rfl, hkj, hjb, hg4, hsu, SU, HU⟩ := hrel
                    by_cases hjb' : ju < b
                    · have hjz : (ju : Int) < (b : Int) := by omega
                      obtain ⟨jup, hjup⟩ : ∃ q, q + 1 = ju := ⟨ju - 1, by omega⟩
                      have zjup : (ju : Int) = (jup : Int) + 1 := by omega
                      have hjz' : (jup : Int) + 1 < (b : Int) := by omega
                      go_wp2_with fail
                      obtain ⟨i9, j9, x9, y9, q9, ea9, pa9, ba9, ra9, eb9, pb9, bb9, rb9, la9, lb9, hc9, hd9, hq9⟩ := look SU HC R (D := (d.size : Int)) (by omega) (by omega) ((jup : Int) + 1) ((jup : Int)) (ju) (ju - 1) (by omega) (by omega) (by omega) (by omega) (by omega)
                      have hq9 : Aside _ := hq9
                      go_wp2_with fail
                      go_quiet_grown (first | (go_at_fn g; refine Calls.grown_of (hc9 _ _)))
                      have SU2 : Aside (SW enc w0 blk off du (grow (wr.drewN nq) osq)) := SU.out.grown nq osq
                      clear la9 lb9 hc9 SU 
                      generalize grow (wr.drewN nq) osq = wu2 at SU2  ⊢
                      clear nq osq
                      clear ea9 eb9
                      cases q9 with
                      | true =>
                        have hu : Aside ((ltOf cf) du[ju]! du[ju - 1]! = true) := hq9.out
                        go_wp2_with fail
                        obtain ⟨i10, j10, x10, y10, u10, ea10, pa10, ba10, ra10, eb10, pb10, bb10, rb10, ca10, cb10, fa10, fb10, cu10, SU3⟩ := turn SU2 R (D := (d.size : Int)) (by omega) (by omega) ((jup : Int) + 1) ((jup : Int)) (ju) (ju - 1) (by omega) (by omega) (by omega) (by omega) (by omega)
                        clear SU2
                        go_wp2_with fail
                        go_big_region_o
                        clear ca10 cb10 cu10 fa10 fb10
                        
                        generalize ((wu2.setCell ⟨blk, off + i10, none⟩ (enc y10)).setCell ⟨blk, off + j10, none⟩ (enc x10)).drew = wu3 at SU3  ⊢
                        clear ea10 eb10
                        go_wp2
                        go_roundg (b - (ju + 1))
                        case measure => omega
                        case rel => exact ⟨ju + 1, swp du ju (ju - 1), by first | rfl | go_num | (congr 1; omega), by omega, by omega, Nat.le_refl _, by rw [size_swp]; exact hsu, SU3, (show Hid _ from by rw [← HU.out, shiftUp_go (ltOf cf) b ju du hjb' hu.out]; exact rfl)⟩
                      | false =>
                        go_wp2
                        go_roundg (5 - (s + 1))
                        case measure => omega
                        case rel => exact ⟨k, s + 1, du, by first | rfl | (congr 1; omega), by first | rfl | go_num | (congr 1; omega), by omega, Nat.le_refl _, by omega, by omega, hsu, SU2, (show Hid _ from by rw [← HO.out, pi_go (ltOf cf) a b s i k dk hss HK.out (by omega) h50, HD.out, show fixUp (ltOf cf) b k (swp dk k (k - 1)) = du from by unfold fixUp; rw [if_pos hbk, ← HU.out, shiftUp_stop (ltOf cf) b ju du (Or.inr hq9.out)]]; exact rfl)⟩
                    · have hjz : ¬ (ju : Int) < (b : Int) := by omega
                      go_wp2
                      go_roundg (5 - (s + 1))
                      case measure => omega
                      case rel => exact ⟨k, s + 1, du, by first | rfl | (congr 1; omega), by first | rfl | go_num | (congr 1; omega), by omega, Nat.le_refl _, by omega, by omega, hsu, SU, (show Hid _ from by rw [← HO.out, pi_go (ltOf cf) a b s i k dk hss HK.out (by omega) h50, HD.out, show fixUp (ltOf cf) b k (swp dk k (k - 1)) = du from by unfold fixUp; rw [if_pos hbk, ← HU.out, shiftUp_stop (ltOf cf) b ju du (Or.inl hjb')]]; exact rfl)⟩
                · have hbkz : ¬ (2 : Int) ≤ (b : Int) - (k : Int) := by omega
                  have hbkd : decide ((2 : Int) ≤ (b : Int) - ((kp : Int) + 1)) = false := decide_eq_false (by omega)
                  go_wp2
                  go_roundg (5 - (s + 1))
                  case measure => omega
                  case rel => exact ⟨k, s + 1, (swp dk k (k - 1)), by first | rfl | (congr 1; omega), by first | rfl | go_num | (congr 1; omega), by omega, Nat.le_refl _, by omega, by omega, hX1, S3, (show Hid _ from by rw [← HO.out, pi_go (ltOf cf) a b s i k dk hss HK.out (by omega) h50, HD.out, show fixUp (ltOf cf) b k (swp dk k (k - 1)) = (swp dk k (k - 1)) from by unfold fixUp; rw [if_neg hbk]]; exact rfl)⟩
        · obtain rfl : k = b := by omega
          have hkz : ¬ (k : Int) < (k : Int) := by omega
          have hkd : decide ((k : Int) < (k : Int)) = false := decide_eq_false hkz
          go_wp2_with fail
          go_big_region_o
          have S2 : Aside (SW enc w0 blk off dk wr.drew) := S1.out.drew
          clear S1
          generalize wr.drew = w2 at S2 ⊢
          go_wp2
          have hv : Sort.partialInsertionSort (ltOf cf) d a k = (dk, true) := by
            unfold Sort.partialInsertionSort
            rw [← HO.out, pi_true (ltOf cf) a k s i dk hss (by rw [← HSc.out, scanSorted_stop (ltOf cf) dk k k (Or.inl (by omega))])]
          rw [hv]
          go_ret
          exact ⟨rfl, S2.out⟩
    · obtain rfl : s = 5 := by omega
      go_wp2
      have hv : Sort.partialInsertionSort (ltOf cf) d a b = (dk, false) := by
        unfold Sort.partialInsertionSort
        rw [← HO.out, pi_end]
      rw [hv]
      go_ret
      exact ⟨rfl, S1.out⟩
end Ms
end Go.Proofs.YtnmcajinaigcjaaGreatDoor

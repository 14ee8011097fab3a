/- slices.siftDownCmpFunc with a method value. -/
import Derived.Test.YtnmcajinaigcjaaGreatDoorMKit
import Derived.Sort.WalkA
import Derived.Sort.WalkB2
import Derived.Sort.WalkB12
namespace Go.Proofs.YtnmcajinaigcjaaGreatDoor
open Go Go.Shelf Go.RowKit Go.Lib Go.Sort
namespace Ms
variable {P : Program} {ρ : Ren} {α : Type} [Inhabited α]

set_option maxHeartbeats 16000000 in
set_option maxRecDepth 1000000 in
/-- siftDown -/
theorem siftDown_m (L : SlLaysF.n46 P ρ) (enc : α → Value) (cf : α → α → Int) (g : Nat) (rv : Value) (blk off cap : Nat) (lo hi first : Nat) (d0 d : Array α) (w0 w : World)
    (eg : ∀ args w, (callFunc g args).run P w = .ok (.enter g args) w) (hcmp : CmpM P g rv enc cf blk off d0.size w0) (R : Row1 enc w0 blk off d0) (hs : d0.size = d.size) (S : SW enc w0 blk off d w) (hlo : lo ≤ hi) (hb : first + hi ≤ d.size) (hsz : d.size < 4611686018427387904) :
    Calls P (ρ.f 46) #[.slice (some ⟨blk, off, none⟩) d.size cap, .int .i64 lo, .int .i64 hi, .int .i64 first, .func (.func g) #[rv] #[]] w fun e w' => e = .returned (.tuple #[]) ∧ SW enc w0 blk off (siftDown (ltOf cf) hi first lo d) w' := by
  have mixed := L.mixed; have t0 := L.t0; have a0 := L.a0; have z0 := L.z0; have v0 := L.v0; have t3 := L.t3; have a3 := L.a3; have z3 := L.z3; have v3 := L.v3; have t4 := L.t4; have a4 := L.a4; have z4 := L.z4; have v4 := L.v4; have t22 := L.t22; have a22 := L.a22; have z22 := L.z22; have v22 := L.v22; have a24 := L.a24; have z24 := L.z24; have t25 := L.t25; have a25 := L.a25; have z25 := L.z25; have v25 := L.v25
  have u22 := run_underlying L.t22
  have hcl0 := R.hO.cells
  simp only [Value.cells] at hcl0
  have hst := R.hO.store P
  obtain ⟨_, _, FG⟩ := L.f46
  have HC : Aside _ := hcmp
  have S0 : Aside (SW enc w0 blk off d w) := S
  clear S hcmp
  go_enter FG, SlBodyF.n46_ntmps ρ
  go_wp2
  go_loopg [10] (hi - lo) (fun kx s10 wr => ∃ (root : Nat) (dk : Array α), s10 = .int .i64 root ∧ root ≤ hi ∧ hi - root ≤ kx ∧ dk.size = d.size ∧ Aside (SW enc w0 blk off dk wr) ∧ Hid (siftDown (ltOf cf) hi first root dk = siftDown (ltOf cf) hi first lo d))
  case atStart => exact ⟨lo, d, rfl, hlo, Nat.le_refl _, rfl, S0, rfl⟩
  case round =>
    obtain ⟨root, dk, rfl, hr, hkx, hds, S1, HE⟩ := hrel
    clear S0
    by_cases h0 : hi ≤ 2 * root + 1
    · have h0z : (hi : Int) ≤ 2 * (root : Int) + 1 := by omega
      go_wp2
      go_end0
      refine ⟨rfl, ?_⟩
      rw [← HE.out, sd_end (ltOf cf) dk h0]
      exact S1.out
    · have h0z : ¬ ((hi : Int) ≤ 2 * (root : Int) + 1) := by omega
      have rch : IntKind.i64.wrap (2 * (root : Int) + 1 + 1) = 2 * (root : Int) + 1 + 1 := by rw [IntKind.wrap_i64]; omega
      by_cases h1 : 2 * root + 2 < hi
      · have h1z : 2 * (root : Int) + 1 + 1 < (hi : Int) := by omega
        obtain ⟨i1, j1, x1, y1, q1, ea1, pa1, ba1, ra1, eb1, pb1, bb1, rb1, la1, lb1, hc1, hd1, hq1⟩ := look S1 HC R (D := (d.size : Int)) (by omega) (by omega) ((first : Int) + (2 * (root : Int) + 1)) ((first : Int) + (2 * (root : Int) + 1) + 1) (first + (2 * root + 1)) (first + (2 * root + 2)) (by omega) (by omega) (by omega) (by omega) (by omega)
        have hq1 : Aside _ := hq1
        go_wp2_with fail
        go_quiet_grown (first | (go_at_fn g; refine Calls.grown_of (hc1 _ _)))
        have S2 : Aside (SW enc w0 blk off dk (grow (wr.drewN nq) osq)) := S1.out.grown nq osq
        clear la1 lb1 hc1 S1 
        generalize grow (wr.drewN nq) osq = w2 at S2  ⊢
        clear nq osq
        clear ea1 eb1
        cases q1 with
        | true =>
          go_wp2_with fail
          obtain ⟨i2, j2, x2, y2, q2, ea2, pa2, ba2, ra2, eb2, pb2, bb2, rb2, la2, lb2, hc2, hd2, hq2⟩ := look S2 HC R (D := (d.size : Int)) (by omega) (by omega) ((first : Int) + (root : Int)) ((first : Int) + (2 * (root : Int) + 1 + 1)) (first + root) (first + (2 * root + 2)) (by omega) (by omega) (by omega) (by omega) (by omega)
          have hq2 : Aside _ := hq2
          go_wp2_with fail
          go_quiet_grown (first | (go_at_fn g; refine Calls.grown_of (hc2 _ _)))
          have S3 : Aside (SW enc w0 blk off dk (grow (w2.drewN nq) osq)) := S2.out.grown nq osq
          clear la2 lb2 hc2 S2 
          generalize grow (w2.drewN nq) osq = w3 at S3  ⊢
          clear nq osq
          clear ea2 eb2
          cases q2 with
          | true =>
            have hG : Aside (ltOf cf dk[first + root]! dk[first + (2 * root + 2)]! = true) := hq2.out
            obtain ⟨i3, j3, x3, y3, u3, ea3, pa3, ba3, ra3, eb3, pb3, bb3, rb3, ca3, cb3, fa3, fb3, cu3, S4⟩ := turn S3 R (D := (d.size : Int)) (by omega) (by omega) ((first : Int) + (root : Int)) ((first : Int) + (2 * (root : Int) + 1 + 1)) (first + root) (first + (2 * root + 2)) (by omega) (by omega) (by omega) (by omega) (by omega)
            clear S3
            go_wp2_with fail
            go_big_region_o
            clear ca3 cb3 cu3 fa3 fb3
            
            generalize ((w3.setCell ⟨blk, off + i3, none⟩ (enc y3)).setCell ⟨blk, off + j3, none⟩ (enc x3)).drew = w4 at S4  ⊢
            clear ea3 eb3
            go_wp2
            go_roundg (hi - (2 * root + 2))
            case measure => omega
            case rel => exact ⟨2 * root + 2, swp dk (first + root) (first + (2 * root + 2)), by go_num, by omega, Nat.le_refl _, by rw [size_swp]; exact hds, S4, (show Hid _ from by rw [← HE.out, sd_right_go (ltOf cf) dk h1 hq1.out hG.out]; exact rfl)⟩
          | false =>
            go_wp2
            (try simp only [Exit.inBlock, Exit.then]); refine bodyPost_ret (results_none rfl _ _ _) rfl ?_
            refine ⟨rfl, ?_⟩
            rw [← HE.out, sd_right_stop (ltOf cf) dk h1 hq1.out hq2.out]
            exact S3.out
        | false =>
          go_wp2_with fail
          obtain ⟨i4, j4, x4, y4, q4, ea4, pa4, ba4, ra4, eb4, pb4, bb4, rb4, la4, lb4, hc4, hd4, hq4⟩ := look S2 HC R (D := (d.size : Int)) (by omega) (by omega) ((first : Int) + (root : Int)) ((first : Int) + (2 * (root : Int) + 1)) (first + root) (first + (2 * root + 1)) (by omega) (by omega) (by omega) (by omega) (by omega)
          have hq4 : Aside _ := hq4
          go_wp2_with fail
          go_quiet_grown (first | (go_at_fn g; refine Calls.grown_of (hc4 _ _)))
          have S3 : Aside (SW enc w0 blk off dk (grow (w2.drewN nq) osq)) := S2.out.grown nq osq
          clear la4 lb4 hc4 S2 
          generalize grow (w2.drewN nq) osq = w3 at S3  ⊢
          clear nq osq
          clear ea4 eb4
          cases q4 with
          | true =>
            have hG : Aside (ltOf cf dk[first + root]! dk[first + (2 * root + 1)]! = true) := hq4.out
            obtain ⟨i5, j5, x5, y5, u5, ea5, pa5, ba5, ra5, eb5, pb5, bb5, rb5, ca5, cb5, fa5, fb5, cu5, S4⟩ := turn S3 R (D := (d.size : Int)) (by omega) (by omega) ((first : Int) + (root : Int)) ((first : Int) + (2 * (root : Int) + 1)) (first + root) (first + (2 * root + 1)) (by omega) (by omega) (by omega) (by omega) (by omega)
            clear S3
            go_wp2_with fail
            go_big_region_o
            clear ca5 cb5 cu5 fa5 fb5
            
            generalize ((w3.setCell ⟨blk, off + i5, none⟩ (enc y5)).setCell ⟨blk, off + j5, none⟩ (enc x5)).drew = w4 at S4  ⊢
            clear ea5 eb5
            go_wp2
            go_roundg (hi - (2 * root + 1))
            case measure => omega
            case rel => exact ⟨2 * root + 1, swp dk (first + root) (first + (2 * root + 1)), by go_num, by omega, Nat.le_refl _, by rw [size_swp]; exact hds, S4, (show Hid _ from by rw [← HE.out, sd_left_go (ltOf cf) dk (by omega) (fun _ => hq1.out) hG.out]; exact rfl)⟩
          | false =>
            go_wp2
            (try simp only [Exit.inBlock, Exit.then]); refine bodyPost_ret (results_none rfl _ _ _) rfl ?_
            refine ⟨rfl, ?_⟩
            rw [← HE.out, sd_left_stop (ltOf cf) dk (by omega) (fun _ => hq1.out) hq4.out]
            exact S3.out
      · have h1z : ¬ (2 * (root : Int) + 1 + 1 < (hi : Int)) := by omega
        have h1d : decide (2 * (root : Int) + 1 + 1 < (hi : Int)) = false := decide_eq_false h1z
        go_wp2_with fail
        go_big_region_o
        have S2 : Aside (SW enc w0 blk off dk wr.drew) := S1.out.drew
        clear S1
        generalize wr.drew = w2 at S2 ⊢
        go_wp2_with fail
        obtain ⟨i6, j6, x6, y6, q6, ea6, pa6, ba6, ra6, eb6, pb6, bb6, rb6, la6, lb6, hc6, hd6, hq6⟩ := look S2 HC R (D := (d.size : Int)) (by omega) (by omega) ((first : Int) + (root : Int)) ((first : Int) + (2 * (root : Int) + 1)) (first + root) (first + (2 * root + 1)) (by omega) (by omega) (by omega) (by omega) (by omega)
        have hq6 : Aside _ := hq6
        go_wp2_with fail
        go_quiet_grown (first | (go_at_fn g; refine Calls.grown_of (hc6 _ _)))
        have S3 : Aside (SW enc w0 blk off dk (grow (w2.drewN nq) osq)) := S2.out.grown nq osq
        clear la6 lb6 hc6 S2 
        generalize grow (w2.drewN nq) osq = w3 at S3  ⊢
        clear nq osq
        clear ea6 eb6
        cases q6 with
        | true =>
          have hG : Aside (ltOf cf dk[first + root]! dk[first + (2 * root + 1)]! = true) := hq6.out
          obtain ⟨i7, j7, x7, y7, u7, ea7, pa7, ba7, ra7, eb7, pb7, bb7, rb7, ca7, cb7, fa7, fb7, cu7, S4⟩ := turn S3 R (D := (d.size : Int)) (by omega) (by omega) ((first : Int) + (root : Int)) ((first : Int) + (2 * (root : Int) + 1)) (first + root) (first + (2 * root + 1)) (by omega) (by omega) (by omega) (by omega) (by omega)
          clear S3
          go_wp2_with fail
          go_big_region_o
          clear ca7 cb7 cu7 fa7 fb7
          
          generalize ((w3.setCell ⟨blk, off + i7, none⟩ (enc y7)).setCell ⟨blk, off + j7, none⟩ (enc x7)).drew = w4 at S4  ⊢
          clear ea7 eb7
          go_wp2
          go_roundg (hi - (2 * root + 1))
          case measure => omega
          case rel => exact ⟨2 * root + 1, swp dk (first + root) (first + (2 * root + 1)), by go_num, by omega, Nat.le_refl _, by rw [size_swp]; exact hds, S4, (show Hid _ from by rw [← HE.out, sd_left_go (ltOf cf) dk (by omega) (fun h => absurd h h1) hG.out]; exact rfl)⟩
        | false =>
          go_wp2
          (try simp only [Exit.inBlock, Exit.then]); refine bodyPost_ret (results_none rfl _ _ _) rfl ?_
          refine ⟨rfl, ?_⟩
          rw [← HE.out, sd_left_stop (ltOf cf) dk (by omega) (fun h => absurd h h1) hq6.out]
          exact S3.out
end Ms
end Go.Proofs.YtnmcajinaigcjaaGreatDoor

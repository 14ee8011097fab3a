/- slices.insertionSortCmpFunc with a method value. -/
import Derived.Test.YtnmcajinaigcjaaGreatDoorMKit
import Derived.Sort.WalkA
import Derived.Sort.WalkB2
import Derived.Sort.WalkB12
namespace Go.Proofs.YtnmcajinaigcjaaGreatDoor
open Go Go.Shelf Go.RowKit Go.Lib Go.Sort
namespace Ms
variable {P : Program} {ρ : Ren} {α : Type} [Inhabited α]

set_option maxHeartbeats 16000000 in
set_option maxRecDepth 1000000 in
/-- insertionSort -/
theorem insertionSort_m (L : SlLaysF.n20 P ρ) (enc : α → Value) (cf : α → α → Int) (g : Nat) (rv : Value) (blk off cap : Nat) (a b : Nat) (d0 d : Array α) (w0 w : World)
    (eg : ∀ args w, (callFunc g args).run P w = .ok (.enter g args) w) (hcmp : CmpM P g rv enc cf blk off d0.size w0) (R : Row1 enc w0 blk off d0) (hs : d0.size = d.size) (S : SW enc w0 blk off d w) (hab : a ≤ b) (hb : b ≤ d.size) (hsz : d.size < 4611686018427387904) :
    Calls P (ρ.f 20) #[.slice (some ⟨blk, off, none⟩) d.size cap, .int .i64 a, .int .i64 b, .func (.func g) #[rv] #[]] w fun e w' => e = .returned (.tuple #[]) ∧ SW enc w0 blk off (Sort.insertionSort (ltOf cf) d a b) w' := by
  have mixed := L.mixed; have t0 := L.t0; have a0 := L.a0; have z0 := L.z0; have v0 := L.v0; have t3 := L.t3; have a3 := L.a3; have z3 := L.z3; have v3 := L.v3; have t4 := L.t4; have a4 := L.a4; have z4 := L.z4; have v4 := L.v4; have t22 := L.t22; have a22 := L.a22; have z22 := L.z22; have v22 := L.v22; have a24 := L.a24; have z24 := L.z24; have t25 := L.t25; have a25 := L.a25; have z25 := L.z25; have v25 := L.v25
  have u22 := run_underlying L.t22
  have hcl0 := R.hO.cells
  simp only [Value.cells] at hcl0
  have hst := R.hO.store P
  obtain ⟨_, _, FG⟩ := L.f20
  have HC : Aside _ := hcmp
  have S0 : Aside (SW enc w0 blk off d w) := S
  clear S hcmp
  go_enter FG, SlBodyF.n20_ntmps ρ
  go_wp2
  go_loopg [8] (b - a) (fun g1 vi wr => ∃ (i : Nat) (dk : Array α), vi = .int .i64 i ∧ a < i ∧ i ≤ b + 1 ∧ b + 1 - i ≤ g1 + 1 ∧ dk.size = d.size ∧ Aside (SW enc w0 blk off dk wr) ∧ Hid (insOuter (ltOf cf) a b i dk = insOuter (ltOf cf) a b (a + 1) d))
  case atStart => exact ⟨a + 1, d, by go_num, by omega, by omega, by omega, rfl, S0, rfl⟩
  case round =>
    clear S0
    obtain ⟨i, dk, rfl, hai, hib, hg1, hsk, S1, HO⟩ := hrel
    by_cases hlt : i < b
    · have hltz : (i : Int) < (b : Int) := by omega
      go_wp2
      go_loopg [9] i (fun g2 vj wr2 => ∃ (j : Nat) (dj : Array α), vj = .int .i64 j ∧ a ≤ j ∧ j ≤ i ∧ j ≤ g2 ∧ dj.size = d.size ∧ Aside (SW enc w0 blk off dj wr2) ∧ Hid (insInner (ltOf cf) a j dj = insInner (ltOf cf) a i dk))
      case atStart => exact ⟨i, dk, rfl, by omega, Nat.le_refl _, Nat.le_refl _, hsk, S1, rfl⟩
      case round =>
        clear S1
        obtain ⟨j, dj, rfl, haj, hji, hg2, hsj, SJ, HI⟩ := hrel
        have OUT : Aside ((j ≤ a ∨ ltOf cf dj[j]! dj[j - 1]! = false) → Hid (insOuter (ltOf cf) a b (i + 1) dj = insOuter (ltOf cf) a b (a + 1) d)) := fun hs => by
          show _ = _
          rw [← HO.out, insOuter_go _ _ _ _ _ hlt, ← HI.out, insInner_stop _ _ _ _ hs]
        by_cases hja : a < j
        · obtain ⟨jp, hjp⟩ : ∃ q, q + 1 = j := ⟨j - 1, by omega⟩
          have hjaz : (a : Int) < (j : Int) := by omega
          have zjp : (j : Int) = (jp : Int) + 1 := by omega
          have hjad : decide ((jp : Int) + 1 > (a : Int)) = true := decide_eq_true (by omega)
          have hjaz' : (a : Int) < (jp : Int) + 1 := by omega
          obtain ⟨i1, j1, x1, y1, q1, ea1, pa1, ba1, ra1, eb1, pb1, bb1, rb1, la1, lb1, hc1, hd1, hq1⟩ := look SJ HC R (D := (d.size : Int)) (by omega) (by omega) ((jp : Int) + 1) ((jp : Int)) (j) (j - 1) (by omega) (by omega) (by omega) (by omega) (by omega)
          have hq1 : Aside _ := hq1
          go_wp2_with fail
          go_quiet_grown (first | (go_at_fn g; refine Calls.grown_of (hc1 _ _)))
          have S2 : Aside (SW enc w0 blk off dj (grow (wr.drewN nq) osq)) := SJ.out.grown nq osq
          clear la1 lb1 hc1 SJ 
          generalize grow (wr.drewN nq) osq = w2 at S2  ⊢
          clear nq osq
          clear ea1 eb1
          cases q1 with
          | true =>
            have hq : Aside (ltOf cf dj[j]! dj[j - 1]! = true) := hq1.out
            obtain ⟨i2, j2, x2, y2, u2, ea2, pa2, ba2, ra2, eb2, pb2, bb2, rb2, ca2, cb2, fa2, fb2, cu2, S3⟩ := turn S2 R (D := (d.size : Int)) (by omega) (by omega) ((jp : Int) + 1) ((jp : Int)) (j) (j - 1) (by omega) (by omega) (by omega) (by omega) (by omega)
            clear S2
            go_wp2_with fail
            go_big_region_o
            clear ca2 cb2 cu2 fa2 fb2
            
            generalize ((w2.setCell ⟨blk, off + i2, none⟩ (enc y2)).setCell ⟨blk, off + j2, none⟩ (enc x2)).drew = w3 at S3  ⊢
            clear ea2 eb2
            go_wp2
            go_roundg (j - 1)
            case measure => omega
            case rel => exact ⟨j - 1, swp dj j (j - 1), by first | rfl | go_num | (congr 1; omega), by omega, by omega, Nat.le_refl _, by rw [size_swp]; exact hsj, S3, (show Hid _ from by rw [← HI.out, insInner_go (ltOf cf) a j dj hja hq.out]; exact rfl)⟩
          | false =>
            go_wp2
            go_roundg (b - (i + 1))
            case measure => omega
            case rel => exact ⟨i + 1, dj, by go_num, by omega, by omega, by omega, hsj, S2, OUT.out (Or.inr hq1.out)⟩
        · have hjaz : decide ((j : Int) > (a : Int)) = false := decide_eq_false (by omega)
          have hjaz' : ¬ (a : Int) < (j : Int) := by omega
          go_wp2_with fail
          go_big_region_o
          have S2 : Aside (SW enc w0 blk off dj wr.drew) := SJ.out.drew
          clear SJ
          generalize wr.drew = w2 at S2 ⊢
          go_wp2
          go_roundg (b - (i + 1))
          case measure => omega
          case rel => exact ⟨i + 1, dj, by go_num, by omega, by omega, by omega, hsj, S2, OUT.out (Or.inl (by omega))⟩
    · have hltz : ¬ (i : Int) < (b : Int) := by omega
      go_wp2
      go_end0
      exact ⟨rfl, by unfold Sort.insertionSort; rw [← HO.out, insOuter_stop _ _ _ _ _ hlt]; exact S1.out⟩
end Ms
end Go.Proofs.YtnmcajinaigcjaaGreatDoor

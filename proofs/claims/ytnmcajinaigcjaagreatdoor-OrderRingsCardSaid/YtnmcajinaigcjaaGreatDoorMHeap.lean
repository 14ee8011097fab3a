/- slices.heapSortCmpFunc with a method value. -/
import Derived.Test.YtnmcajinaigcjaaGreatDoorMSift
import Derived.Shelf.SlSortCmp.HeapSort1
namespace Go.Proofs.YtnmcajinaigcjaaGreatDoor
open Go Go.Shelf Go.RowKit Go.Lib Go.Sort
namespace Ms
variable {P : Program} {ρ : Ren} {α : Type} [Inhabited α]

set_option maxHeartbeats 16000000 in
set_option maxRecDepth 1000000 in
/-- heapSort -/
theorem heapSort_m (L : SlLaysF.n21 P ρ) (enc : α → Value) (cf : α → α → Int) (g : Nat) (rv : Value) (blk off cap : Nat) (a b : Nat) (d0 d : Array α) (w0 w : World)
    (eg : ∀ args w, (callFunc g args).run P w = .ok (.enter g args) w) (hcmp : CmpM P g rv enc cf blk off d0.size w0) (R : Row1 enc w0 blk off d0) (hs : d0.size = d.size) (S : SW enc w0 blk off d w) (hab : a ≤ b) (hb : b ≤ d.size) (hsz : d.size < 4611686018427387904) :
    Calls P (ρ.f 21) #[.slice (some ⟨blk, off, none⟩) d.size cap, .int .i64 a, .int .i64 b, .func (.func g) #[rv] #[]] w fun e w' => e = .returned (.tuple #[]) ∧ SW enc w0 blk off (heapSort (ltOf cf) d a b) w' := by
  have mixed := L.mixed; have t0 := L.t0; have a0 := L.a0; have z0 := L.z0; have v0 := L.v0; have t3 := L.t3; have a3 := L.a3; have z3 := L.z3; have v3 := L.v3; have t4 := L.t4; have a4 := L.a4; have z4 := L.z4; have v4 := L.v4; have t22 := L.t22; have a22 := L.a22; have z22 := L.z22; have v22 := L.v22; have a24 := L.a24; have z24 := L.z24; have t25 := L.t25; have a25 := L.a25; have z25 := L.z25; have v25 := L.v25
  have u22 := run_underlying L.t22
  have hcl0 := R.hO.cells
  simp only [Value.cells] at hcl0
  have hst := R.hO.store P
  obtain ⟨_, _, FG⟩ := L.f21
  have e46 : ∀ args w, (callFunc (ρ.f 46) args).run P w = .ok (.enter (ρ.f 46) args) w := L.f46.enters rfl
  have HC : Aside _ := hcmp
  have S0 : Aside (SW enc w0 blk off d w) := S
  clear S
  have ecast : ((b - a : Nat) : Int) = (b : Int) - (a : Int) := by omega
  go_enter FG, SlBodyF.n21_ntmps ρ
  go_wp2
  go_loopg [11] ((b - a - 1) / 2 + 1) (fun kx s11 wr => s11 = .int .i64 ((kx : Int) - 1) ∧ kx ≤ (b - a - 1) / 2 + 1 ∧ ∃ (dk : Array α), dk.size = d.size ∧ Aside (SW enc w0 blk off dk wr) ∧
    Hid (heapBuild (ltOf cf) (b - a) a kx dk = heapBuild (ltOf cf) (b - a) a ((b - a - 1) / 2 + 1) d))
  case atStart => exact ⟨by rw [half_start hab], Nat.le_refl _, d, rfl, S0, rfl⟩
  case round =>
    clear S0
    obtain ⟨rfl, hkk, dk, hds, S1, HE⟩ := hrel
    cases gk with
    | zero =>
      have hB : dk = heapBuild (ltOf cf) (b - a) a ((b - a - 1) / 2 + 1) d := HE.out
      clear HE hkk
      go_wp2
      go_loopg [12] (b - a) (fun kx s12 wr2 => s12 = .int .i64 ((kx : Int) - 1) ∧ kx ≤ b - a ∧ ∃ (dj : Array α), dj.size = d.size ∧ Aside (SW enc w0 blk off dj wr2) ∧ Hid (heapPop (ltOf cf) a kx dj = heapPop (ltOf cf) a (b - a) dk))
      case atStart => exact ⟨by rw [ecast], Nat.le_refl _, dk, hds, S1, rfl⟩
      case round =>
        clear S1
        obtain ⟨rfl, hkk, dj, hdj, S1, HE2⟩ := hrel
        cases gk with
        | zero =>
          go_wp2
          go_end0
          have e : dj = heapSort (ltOf cf) d a b := by rw [heapSort, ← hB, ← HE2.out]; rfl
          rw [← e]
          exact ⟨rfl, S1.out⟩
        | succ kx =>
          have ekx : ((kx + 1 : Nat) : Int) - 1 = (kx : Int) := by omega
          go_wp2_with fail
          obtain ⟨i1, j1, x1, y1, u1, ea1, pa1, ba1, ra1, eb1, pb1, bb1, rb1, ca1, cb1, fa1, fb1, cu1, S2⟩ := turn S1 R (D := (d.size : Int)) (by omega) (by omega) ((a : Int)) ((a : Int) + (kx : Int)) (a) (a + kx) (by omega) (by omega) (by omega) (by omega) (by omega)
          clear S1
          go_wp2_with fail
          go_big_region_o
          clear ca1 cb1 cu1 fa1 fb1
          
          generalize ((wr.setCell ⟨blk, off + i1, none⟩ (enc y1)).setCell ⟨blk, off + j1, none⟩ (enc x1)).drew = w2 at S2  ⊢
          clear ea1 eb1
          have hd2 : (swp dj a (a + kx)).size = d.size := by rw [size_swp]; exact hdj
          have hcall := siftDown_m (P := P) (ρ := ρ) { L with } enc cf g rv blk off cap 0 kx a d0 (swp dj a (a + kx)) w0 w2 eg HC.out R (by omega) S2.out (Nat.zero_le _) (by omega) (by omega)
          rw [hd2] at hcall
          clear S2
          go_wp2_with (go_at_fn (ρ.f 46); refine hcall.mono ?_; rintro e w1 ⟨rfl, S3⟩)
          go_roundg kx
          case measure => omega
          case rel =>
            have hss : (siftDown (ltOf cf) kx a 0 (swp dj a (a + kx))).size = (swp dj a (a + kx)).size := size_siftDown (ltOf cf) _ _ _ _ _ (Nat.le_refl _)
            exact ⟨by simp, by omega, siftDown (ltOf cf) kx a 0 (swp dj a (a + kx)), by rw [hss, hd2], S3, HE2⟩
    | succ kx =>
      have hcall := siftDown_m (P := P) (ρ := ρ) { L with } enc cf g rv blk off cap kx (b - a) a d0 dk w0 wr eg HC.out R (by omega) S1.out (by omega) (by omega) (by omega)
      rw [ecast, hds] at hcall
      clear S1
      go_wp2_with (go_at_fn (ρ.f 46); refine hcall.mono ?_; rintro e w1 ⟨rfl, S3⟩)
      go_roundg kx
      case measure => omega
      case rel =>
        have hss : (siftDown (ltOf cf) (b - a) a kx dk).size = dk.size := size_siftDown (ltOf cf) _ _ _ _ _ (Nat.le_refl _)
        exact ⟨by simp, by omega, siftDown (ltOf cf) (b - a) a kx dk, by rw [hss, hds], S3, HE⟩
end Ms
end Go.Proofs.YtnmcajinaigcjaaGreatDoor

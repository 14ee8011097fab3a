/- slices.reverseRangeCmpFunc with a method value (it does not call it). -/
import Derived.Test.YtnmcajinaigcjaaGreatDoorMKit
import Derived.Shelf.SlSortCmp.ReverseRange1
namespace Go.Proofs.YtnmcajinaigcjaaGreatDoor
open Go Go.Shelf Go.RowKit Go.Lib Go.Sort
namespace Ms
variable {P : Program} {ρ : Ren} {α : Type} [Inhabited α]

set_option maxHeartbeats 16000000 in
set_option maxRecDepth 1000000 in
/-- reverseRange -/
theorem reverseRange_m (L : SlLaysF.n24 P ρ) (enc : α → Value) (g : Nat) (rv : Value) (blk off cap : Nat) (a b : Nat) (d0 d : Array α) (w0 w : World)
    (R : Row1 enc w0 blk off d0) (hs : d0.size = d.size) (S : SW enc w0 blk off d w) (hab : a ≤ b) (hb : b ≤ d.size) (hsz : d.size < 4611686018427387904) :
    Calls P (ρ.f 24) #[.slice (some ⟨blk, off, none⟩) d.size cap, .int .i64 a, .int .i64 b, .func (.func g) #[rv] #[]] w fun e w' => e = .returned (.tuple #[]) ∧ SW enc w0 blk off (reverseRange d a b) w' := by
  have mixed := L.mixed; have t0 := L.t0; have a0 := L.a0; have z0 := L.z0; have v0 := L.v0; have t3 := L.t3; have a3 := L.a3; have z3 := L.z3; have v3 := L.v3; have t4 := L.t4; have a4 := L.a4; have z4 := L.z4; have v4 := L.v4; have t22 := L.t22; have a22 := L.a22; have z22 := L.z22; have v22 := L.v22; have a24 := L.a24; have z24 := L.z24; have t25 := L.t25; have a25 := L.a25; have z25 := L.z25; have v25 := L.v25
  have u22 := run_underlying L.t22
  have hcl0 := R.hO.cells
  simp only [Value.cells] at hcl0
  have hst := R.hO.store P
  obtain ⟨_, _, FG⟩ := L.f24
  have S0 : Aside (SW enc w0 blk off d w) := S
  clear S
  go_enter FG, SlBodyF.n24_ntmps ρ
  go_wp2
  go_loopg [8, 9] (b - a) (fun kx s8 s9 wr => ∃ (i jn : Nat) (jz : Int) (dk : Array α), s8 = .int .i64 i ∧ s9 = .int .i64 jz ∧ ((i : Int) < jz → jz = jn ∧ jn < d.size) ∧ (¬ (i : Int) < jz → ¬ i < jn) ∧ jn - i ≤ kx ∧
    dk.size = d.size ∧ Aside (SW enc w0 blk off dk wr) ∧ reverseLoop i jn dk = reverseLoop a (b - 1) d)
  case atStart => exact ⟨a, b - 1, (b : Int) - 1, d, rfl, rfl, fun h => ⟨by omega, by omega⟩, fun h => by omega, by omega, rfl, S0, rfl⟩
  case round =>
    clear S0
    obtain ⟨i, jn, jz, dk, rfl, rfl, h1, h2, hkx, hds, S1, heq⟩ := hrel
    by_cases hlt : (i : Int) < jz
    · obtain ⟨rfl, hjn⟩ := h1 hlt
      have hij : i < jn := by omega
      clear h1 h2
      go_wp2_with fail
      obtain ⟨i1, j1, x1, y1, u1, ea1, pa1, ba1, ra1, eb1, pb1, bb1, rb1, ca1, cb1, fa1, fb1, cu1, S2⟩ := turn S1 R (D := (d.size : Int)) (by omega) (by omega) ((i : Int)) ((jn : Int)) (i) (jn) (by omega) (by omega) (by omega) (by omega) (by omega)
      clear S1
      go_wp2_with fail
      go_big_region_o
      clear ca1 cb1 cu1 fa1 fb1
      
      generalize ((wr.setCell ⟨blk, off + i1, none⟩ (enc y1)).setCell ⟨blk, off + j1, none⟩ (enc x1)).drew = w2 at S2  ⊢
      clear ea1 eb1
      go_wp2
      go_roundg (jn - 1 - (i + 1))
      case measure => omega
      case rel =>
        rw [reverseLoop, if_pos hij] at heq
        exact ⟨i + 1, jn - 1, (jn : Int) - 1, swp dk i jn, by simp, rfl, fun h => ⟨by omega, by omega⟩, fun h => by omega, Nat.le_refl _, by rw [size_swp]; exact hds, S2, heq⟩
    · have hnot := h2 hlt
      go_wp2
      go_end0
      refine ⟨rfl, ?_⟩
      rw [reverseLoop, if_neg hnot] at heq
      rw [reverseRange, ← heq]
      exact S1.out
end Ms
end Go.Proofs.YtnmcajinaigcjaaGreatDoor

/- slices.breakPatternsCmpFunc with a method value (it does not call it). -/
import Derived.Test.YtnmcajinaigcjaaGreatDoorMKit
import Derived.Shelf.SlSortCmp.BreakPatterns1
namespace Go.Proofs.YtnmcajinaigcjaaGreatDoor
open Go Go.Shelf Go.RowKit Go.Lib Go.Sort
namespace Ms
variable {P : Program} {ρ : Ren} {α : Type} [Inhabited α]

set_option maxHeartbeats 16000000 in
set_option maxRecDepth 1000000 in
/-- eight and more -/
theorem breakPatterns_m8 (L : SlLaysF.n22 P ρ) (enc : α → Value) (g : Nat) (rv : Value) (blk off cap : Nat) (a l : Nat) (d0 d : Array α) (w0 w : World)
    (R : Row1 enc w0 blk off d0) (hs : d0.size = d.size) (S : SW enc w0 blk off d w) (hb : a + l ≤ d.size) (h8 : 8 ≤ l) (hsz : d.size < 4611686018427387904) :
    Calls P (ρ.f 22) #[.slice (some ⟨blk, off, none⟩) d.size cap, .int .i64 a, .int .i64 ((a + l : Nat) : Int), .func (.func g) #[rv] #[]] w fun e w' => e = .returned (.tuple #[]) ∧ SW enc w0 blk off (breakPatterns d a (a + l)) w' := by
  have mixed := L.mixed; have t0 := L.t0; have a0 := L.a0; have z0 := L.z0; have v0 := L.v0; have t3 := L.t3; have a3 := L.a3; have z3 := L.z3; have v3 := L.v3; have t4 := L.t4; have a4 := L.a4; have z4 := L.z4; have v4 := L.v4; have t5 := L.t5; have a5 := L.a5; have z5 := L.z5; have v5 := L.v5; have t9 := L.t9; have a9 := L.a9; have z9 := L.z9; have v9 := L.v9; have t22 := L.t22; have a22 := L.a22; have z22 := L.z22; have v22 := L.v22; have a24 := L.a24; have z24 := L.z24; have t25 := L.t25; have a25 := L.a25; have z25 := L.z25; have v25 := L.v25; have t39 := L.t39; have a39 := L.a39; have z39 := L.z39; have v39 := L.v39; have t53 := L.t53; have a53 := L.a53; have z53 := L.z53; have v53 := L.v53; have t55 := L.t55; have a55 := L.a55; have z55 := L.z55; have v55 := L.v55; have t66 := L.t66; have a66 := L.a66; have z66 := L.z66; have v66 := L.v66; have t76 := L.t76; have a76 := L.a76; have z76 := L.z76; have v76 := L.v76
  have u22 := run_underlying L.t22
  have hcl0 := R.hO.cells
  simp only [Value.cells] at hcl0
  have hst := R.hO.store P
  obtain ⟨_, _, FG⟩ := L.f22
  have e47 : ∀ args w, (callFunc (ρ.f 47) args).run P w = .ok (.enter (ρ.f 47) args) w := enters_of L.f47 (by kernel_rfl) rfl
  have e48 : ∀ args w, (callFunc (ρ.f 48) args).run P w = .ok (.enter (ρ.f 48) args) w := enters_of L.f48 (by kernel_rfl) rfl
  rw [breakPatterns_eq d a l h8]
  obtain ⟨M, hM⟩ : ∃ M : Nat, M = 1 <<< bitsLen l := ⟨_, rfl⟩
  have hM1 : 1 ≤ M := by rw [hM, Nat.one_shiftLeft]; exact Nat.two_pow_pos _
  have hM2 : M ≤ 2 * l := by rw [hM, Nat.one_shiftLeft]; exact two_pow_bitsLen_le (by omega)
  have hNP : ∀ w, Calls P (ρ.f 47) #[.int .i64 (l : Int)] w fun e w' => e = .returned (.int .u64 (M : Int)) ∧ w' = w := by rw [hM]; exact fun w => AnyF.nextPowerOfTwo { L with } l (by omega) w
  rw [← hM]
  clear hM
  have hLz : ((a : Int) + (l : Int) - (a : Int)) = (l : Int) := by omega
  have h8z : (8 : Int) ≤ (l : Int) := by omega
  have hne : w.heap.size ≠ blk := by have := S.lt R.hblk; omega
  have hle0 : w0.heap.size ≤ w.heap.size := S.le
  have S0 : Aside (SW enc w0 blk off d w) := S
  clear S
  go_enter FG, SlBodyF.n22_ntmps ρ
  go_wp2_with (first | (go_at_fn (ρ.f 47); refine (hNP _).mono ?_; rintro e w' ⟨rfl, rfl⟩))
  go_loopg [11] 3 (fun g1 vi wr => ∃ (t : Nat) (r : UInt64) (dk : Array α), vi = .int .i64 ((a : Int) + (l : Int) / 4 * 2 - 1 + (t : Int)) ∧ t ≤ 3 ∧ 3 - t ≤ g1 ∧ dk.size = d.size ∧ Aside (SW enc w0 blk off dk wr) ∧
      wr.cell? ⟨w.heap.size, 0, none⟩ = some (.int .u64 (r.toNat : Int)) ∧ wr.frozen? ⟨w.heap.size, 0, none⟩ = false ∧
      Hid (bpRest a l M (a + l / 4 * 2 - 1) (3 - t) t (r, dk) = bpRest a l M (a + l / 4 * 2 - 1) 3 0 (UInt64.ofNat l, d)))
  case atStart =>
    refine ⟨0, UInt64.ofNat l, d, by simp, by omega, by omega, rfl, S0.out.alloc _, ?_, by simp, rfl⟩
    rw [show (UInt64.ofNat l).toNat = l from by simp; omega]
    simp
  case round =>
    clear S0
    obtain ⟨t, r, dk, rfl, ht, hg1, hds, S1, cR, fR, HR⟩ := hrel
    by_cases ht3 : t < 3
    · have hle : (a : Int) + (l : Int) / 4 * 2 - 1 + (t : Int) ≤ (a : Int) + (l : Int) / 4 * 2 + 1 := by omega
      obtain ⟨R0, hRr⟩ : ∃ R0 : Nat, R0 = r.toNat := ⟨_, rfl⟩
      have lR : R0 < 18446744073709551616 := by rw [hRr]; exact r.toNat_lt
      obtain ⟨R', hR'⟩ : ∃ R' : Nat, R' = xorNextN R0 := ⟨_, rfl⟩
      have lR' : R' < 18446744073709551616 := by rw [hR']; exact xorNextN_lt R0 lR
      obtain ⟨O, hO⟩ : ∃ O : Nat, O = R' &&& (M - 1) := ⟨_, rfl⟩
      have lO : O ≤ M - 1 := by rw [hO]; exact Nat.and_le_right
      have eAnd : bits .and .u64 (R' : Int) ((M : Int) - 1) = (O : Int) := by
        rw [show ((M : Int) - 1) = ((M - 1 : Nat) : Int) by omega, bits_and_u64_nat _ _ lR' (by omega), hO]
      rw [← hRr] at cR
      have hNext : Calls P (ρ.f 48) #[.pointer (some ⟨w.heap.size, 0, none⟩)] wr fun e w' => e = .returned (.int .u64 (R' : Int)) ∧ w' = (wr.setCell ⟨w.heap.size, 0, none⟩ (.int .u64 (R' : Int))).drewN 3 := by
        rw [hR']; exact AnyF.xorshift_Next { L with } _ _ R0 lR wr cR fR
      have HN : Hid (R' = (xorNext r).toNat ∧ O = (xorNext r).toNat &&& (M - 1)) := by
        have e : R' = (xorNext r).toNat := by rw [hR', hRr, xorNext_toNat]
        exact ⟨e, by rw [hO, e]⟩
      clear hRr hR' hO
      have S2 : Aside (SW enc w0 blk off dk ((wr.setCell ⟨w.heap.size, 0, none⟩ (.int .u64 (R' : Int))).drewN 3)) := (S1.out.setCell_new w.heap.size 0 (.int .u64 (R' : Int)) hle0).drewN 3
      have cR' : ((wr.setCell ⟨w.heap.size, 0, none⟩ (.int .u64 (R' : Int))).drewN 3).cell? ⟨w.heap.size, 0, none⟩ = some (.int .u64 (R' : Int)) := by
        rw [World.cell?_drewN]; exact World.cell?_setCell_same _ _ _ cR
      have fR' : ((wr.setCell ⟨w.heap.size, 0, none⟩ (.int .u64 (R' : Int))).drewN 3).frozen? ⟨w.heap.size, 0, none⟩ = false := by
        rw [World.frozen?_drewN]; simpa using fR
      generalize (wr.setCell ⟨w.heap.size, 0, none⟩ (.int .u64 (R' : Int))).drewN 3 = w2 at hNext S2 cR' fR'
      clear cR fR S1
      by_cases hLO : l ≤ O
      · have hLOz : (l : Int) ≤ (O : Int) := by omega
        go_wp2_with (go_at_fn (ρ.f 48); refine hNext.mono ?_; rintro e w' ⟨rfl, hw'⟩; obtain rfl : w2 = w' := hw'.symm)
        obtain ⟨i1, j1, x1, y1, u1, ea1, pa1, ba1, ra1, eb1, pb1, bb1, rb1, ca1, cb1, fa1, fb1, cu1, S3⟩ := turn S2 R (D := (d.size : Int)) (by omega) (by omega) ((a : Int) + (l : Int) / 4 * 2 - 1 + (t : Int)) ((a : Int) + ((O : Int) - (l : Int))) (a + l / 4 * 2 - 1 + t) (a + (O - l)) (by omega) (by omega) (by omega) (by omega) (by omega)
        clear S2
        go_wp2_with fail
        go_big_region_o
        clear ca1 cb1 cu1 fa1 fb1
        have k1 := box_kept_swap1 (W := w2) (blk := blk) hne cR' fR' (off + i1) (off + j1) (enc y1) (enc x1)
        generalize ((w2.setCell ⟨blk, off + i1, none⟩ (enc y1)).setCell ⟨blk, off + j1, none⟩ (enc x1)).drew = w3 at S3 k1 ⊢
        clear ea1 eb1
        go_wp2
        go_roundg (3 - (t + 1))
        case measure => omega
        case rel => exact ⟨t + 1, xorNext r, swp dk (a + l / 4 * 2 - 1 + t) (a + (O - l)), by congr 1; push_cast; omega, by omega, Nat.le_refl _, by rw [size_swp]; exact hds, S3, by rw [← HN.out.1]; exact k1.1, k1.2,
          (show Hid _ from by rw [← HR.out, bp_step a l M _ t r dk (O - l) ht3 (by rw [← HN.out.2, if_pos (by omega)])]; exact rfl)⟩
      · have hLOz : ¬ (l : Int) ≤ (O : Int) := by omega
        go_wp2_with (go_at_fn (ρ.f 48); refine hNext.mono ?_; rintro e w' ⟨rfl, hw'⟩; obtain rfl : w2 = w' := hw'.symm)
        obtain ⟨i2, j2, x2, y2, u2, ea2, pa2, ba2, ra2, eb2, pb2, bb2, rb2, ca2, cb2, fa2, fb2, cu2, S3⟩ := turn S2 R (D := (d.size : Int)) (by omega) (by omega) ((a : Int) + (l : Int) / 4 * 2 - 1 + (t : Int)) ((a : Int) + (O : Int)) (a + l / 4 * 2 - 1 + t) (a + O) (by omega) (by omega) (by omega) (by omega) (by omega)
        clear S2
        go_wp2_with fail
        go_big_region_o
        clear ca2 cb2 cu2 fa2 fb2
        have k1 := box_kept_swap1 (W := w2) (blk := blk) hne cR' fR' (off + i2) (off + j2) (enc y2) (enc x2)
        generalize ((w2.setCell ⟨blk, off + i2, none⟩ (enc y2)).setCell ⟨blk, off + j2, none⟩ (enc x2)).drew = w3 at S3 k1 ⊢
        clear ea2 eb2
        go_wp2
        go_roundg (3 - (t + 1))
        case measure => omega
        case rel => exact ⟨t + 1, xorNext r, swp dk (a + l / 4 * 2 - 1 + t) (a + O), by congr 1; push_cast; omega, by omega, Nat.le_refl _, by rw [size_swp]; exact hds, S3, by rw [← HN.out.1]; exact k1.1, k1.2,
          (show Hid _ from by rw [← HR.out, bp_step a l M _ t r dk (O) ht3 (by rw [← HN.out.2, if_neg (by omega)])]; exact rfl)⟩
    · obtain rfl : t = 3 := by omega
      have hle : ¬ ((a : Int) + (l : Int) / 4 * 2 - 1 + ((3 : Nat) : Int) ≤ (a : Int) + (l : Int) / 4 * 2 + 1) := by omega
      go_wp2
      go_end0
      refine ⟨rfl, ?_⟩
      rw [← HR.out]
      exact S1.out
set_option maxHeartbeats 16000000 in
set_option maxRecDepth 1000000 in
/-- fewer than eight: nothing is done -/
theorem breakPatterns_m0 (L : SlLaysF.n22 P ρ) (enc : α → Value) (g : Nat) (rv : Value) (blk off cap : Nat) (a l : Nat) (d0 d : Array α) (w0 w : World)
    (R : Row1 enc w0 blk off d0) (_hs : d0.size = d.size) (S : SW enc w0 blk off d w) (_hb : a + l ≤ d.size) (h8 : ¬ 8 ≤ l) (_hsz : d.size < 4611686018427387904) :
    Calls P (ρ.f 22) #[.slice (some ⟨blk, off, none⟩) d.size cap, .int .i64 a, .int .i64 ((a + l : Nat) : Int), .func (.func g) #[rv] #[]] w fun e w' => e = .returned (.tuple #[]) ∧ SW enc w0 blk off (breakPatterns d a (a + l)) w' := by
  have hv : breakPatterns d a (a + l) = d := by unfold breakPatterns; simp only [Nat.add_sub_cancel_left]; rw [if_neg h8]
  rw [hv]
  have mixed := L.mixed; have t0 := L.t0; have a0 := L.a0; have z0 := L.z0; have v0 := L.v0; have t3 := L.t3; have a3 := L.a3; have z3 := L.z3; have v3 := L.v3; have t4 := L.t4; have a4 := L.a4; have z4 := L.z4; have v4 := L.v4; have t5 := L.t5; have a5 := L.a5; have z5 := L.z5; have v5 := L.v5; have t9 := L.t9; have a9 := L.a9; have z9 := L.z9; have v9 := L.v9; have t22 := L.t22; have a22 := L.a22; have z22 := L.z22; have v22 := L.v22; have a24 := L.a24; have z24 := L.z24; have t25 := L.t25; have a25 := L.a25; have z25 := L.z25; have v25 := L.v25; have t39 := L.t39; have a39 := L.a39; have z39 := L.z39; have v39 := L.v39; have t53 := L.t53; have a53 := L.a53; have z53 := L.z53; have v53 := L.v53; have t55 := L.t55; have a55 := L.a55; have z55 := L.z55; have v55 := L.v55; have t66 := L.t66; have a66 := L.a66; have z66 := L.z66; have v66 := L.v66; have t76 := L.t76; have a76 := L.a76; have z76 := L.z76; have v76 := L.v76
  have u22 := run_underlying L.t22
  have hcl0 := R.hO.cells
  simp only [Value.cells] at hcl0
  have hst := R.hO.store P
  obtain ⟨_, _, FG⟩ := L.f22
  have hLz : ((a : Int) + (l : Int) - (a : Int)) = (l : Int) := by omega
  have h8z : ¬ (8 : Int) ≤ (l : Int) := by omega
  have S0 : Aside (SW enc w0 blk off d w) := S
  clear S
  go_enter FG, SlBodyF.n22_ntmps ρ
  go_wp2
  go_end0
  exact ⟨rfl, S0.out⟩
theorem breakPatterns_m (L : SlLaysF.n22 P ρ) (enc : α → Value) (g : Nat) (rv : Value) (blk off cap : Nat) (a b : Nat) (d0 d : Array α) (w0 w : World)
    (R : Row1 enc w0 blk off d0) (hs : d0.size = d.size) (S : SW enc w0 blk off d w) (hab : a ≤ b) (hb : b ≤ d.size) (hsz : d.size < 4611686018427387904) :
    Calls P (ρ.f 22) #[.slice (some ⟨blk, off, none⟩) d.size cap, .int .i64 a, .int .i64 b, .func (.func g) #[rv] #[]] w fun e w' => e = .returned (.tuple #[]) ∧ SW enc w0 blk off (breakPatterns d a b) w' := by
  obtain ⟨l, rfl⟩ : ∃ l, b = a + l := ⟨b - a, by omega⟩
  by_cases h8 : 8 ≤ l
  · exact breakPatterns_m8 L enc g rv blk off cap a l d0 d w0 w R hs S hb h8 hsz
  · exact breakPatterns_m0 L enc g rv blk off cap a l d0 d w0 w R hs S hb h8 hsz
end Ms
end Go.Proofs.YtnmcajinaigcjaaGreatDoor

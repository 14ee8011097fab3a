/- slices.SortFunc with a method value: a permutation of what the row held, sorted. -/
import Derived.Test.YtnmcajinaigcjaaGreatDoorMPdq
import Derived.Shelf.SlSortCmp.Whole1
namespace Go.Proofs.YtnmcajinaigcjaaGreatDoor
open Go Go.Shelf Go.RowKit Go.Lib Go.Sort
namespace Ms
variable {P : Program} {ρ : Ren} {α : Type} [Inhabited α]

set_option maxHeartbeats 2000000 in
set_option maxRecDepth 100000 in
theorem sortFunc_m (L : SlLaysF.n6 P ρ) (enc : α → Value) (h1 : OneCell enc) (cf : α → α → Int) (hO : SWO (ltOf cf)) (g : Nat) (rv : Value) (blk off cap : Nat) (d : Array α) (w : World)
    (eg : ∀ args w, (callFunc g args).run P w = .ok (.enter g args) w) (hcmp : CmpM P g rv enc cf blk off d.size w) (hH : Holds enc w blk off d) (hblk : blk < w.heap.size) (hsz : d.size < 4611686018427387904) :
    Calls P (ρ.f 6) #[.slice (some ⟨blk, off, none⟩) d.size cap, .func (.func g) #[rv] #[]] w fun e w' =>
      e = .returned (.tuple #[]) ∧ ∃ d' n os, PermIn 0 d.size d d' ∧ SortedIn (ltOf cf) 0 d.size d' ∧ w' = sortWorld enc w blk off n d' os := by
  have mixed := L.mixed; have t0 := L.t0; have a0 := L.a0; have z0 := L.z0; have v0 := L.v0; have t3 := L.t3; have a3 := L.a3; have z3 := L.z3; have v3 := L.v3; have t4 := L.t4; have a4 := L.a4; have z4 := L.z4; have v4 := L.v4; have t5 := L.t5; have a5 := L.a5; have z5 := L.z5; have v5 := L.v5; have t9 := L.t9; have a9 := L.a9; have z9 := L.z9; have v9 := L.v9; have t22 := L.t22; have a22 := L.a22; have z22 := L.z22; have v22 := L.v22; have a24 := L.a24; have z24 := L.z24; have t25 := L.t25; have a25 := L.a25; have z25 := L.z25; have v25 := L.v25; have t39 := L.t39; have a39 := L.a39; have z39 := L.z39; have v39 := L.v39; have t45 := L.t45; have a45 := L.a45; have z45 := L.z45; have v45 := L.v45; have t46 := L.t46; have a46 := L.a46; have z46 := L.z46; have v46 := L.v46; have t50 := L.t50; have a50 := L.a50; have z50 := L.z50; have v50 := L.v50; have t53 := L.t53; have a53 := L.a53; have z53 := L.z53; have v53 := L.v53; have t55 := L.t55; have a55 := L.a55; have z55 := L.z55; have v55 := L.v55; have t66 := L.t66; have a66 := L.a66; have z66 := L.z66; have v66 := L.v66; have t70 := L.t70; have a70 := L.a70; have z70 := L.z70; have v70 := L.v70; have t76 := L.t76; have a76 := L.a76; have z76 := L.z76; have v76 := L.v76; have t77 := L.t77; have a77 := L.a77; have z77 := L.z77; have v77 := L.v77
  have e14 : ∀ args w, (callFunc (ρ.f 14) args).run P w = .ok (.enter (ρ.f 14) args) w := L.f14.enters rfl
  have e15 : ∀ args w, (callFunc (ρ.f 15) args).run P w = .ok (.enter (ρ.f 15) args) w := enters_of L.f15 (by kernel_rfl) rfl
  have hlim : Lib.bitLen d.size < 4611686018427387904 := Nat.lt_of_le_of_lt (Lib.bitLen_le d.size 62 (by omega) (by omega)) (by omega)
  have hp := pdqsort_m (P := P) (ρ := ρ) { L with } enc cf g rv hO blk off cap d w eg hcmp ⟨h1, hH, hblk⟩ (d.size + 1) 0 d.size (Lib.bitLen d.size) d w (by omega) rfl (SW.start hH) (Nat.zero_le _) (Nat.le_refl _) hsz hlim (Or.inl rfl)
  have hl : Calls P (ρ.f 15) #[.int .u64 (d.size : Int)] w fun e w' => e = .returned (.int .i64 (Lib.bitLen d.size : Nat)) ∧ w' = w := by
    have h := Any.bits_Len (SlLaysF0.n15.bits (P := P) (ρ := ρ) { L with }) (d.size : Int) w (by omega) (by omega)
    rwa [Int.toNat_natCast] at h
  have wr : IntKind.u64.wrap (d.size : Int) = d.size := by simp [IntKind.wrap, IntKind.bits, IntKind.signed]; omega
  have h := pdq_sorts (ltOf cf) hO d 0 d.size (Lib.bitLen d.size) true true (Nat.zero_le _) (Nat.le_refl _) (Or.inl rfl)
  clear hH hcmp h1
  obtain ⟨_, _, FG⟩ := L.f6
  go_enter FG, SlBodyF.n6_ntmps ρ
  go_wp2_with (first | (go_at_fn (ρ.f 15); refine hl.mono ?_; rintro e w' ⟨rfl, rfl⟩) | (go_at_fn (ρ.f 14); refine hp.mono ?_; rintro e w' ⟨rfl, n, os, rfl⟩))
  go_end0
  exact ⟨rfl, _, n, os, h.1, h.2, rfl⟩
end Ms
end Go.Proofs.YtnmcajinaigcjaaGreatDoor

/- slices.order2CmpFunc, medianCmpFunc, medianAdjacentCmpFunc with a method value. -/
import Derived.Test.YtnmcajinaigcjaaGreatDoorMKit
import Derived.Shelf.SlSortFuncK.PivotK
import Derived.Sort.WalkB2
import Derived.Sort.WalkB12
namespace Go.Proofs.YtnmcajinaigcjaaGreatDoor
open Go Go.Shelf Go.RowKit Go.Lib Go.Sort
namespace Ms
variable {P : Program} {ρ : Ren} {α : Type} [Inhabited α]

set_option maxHeartbeats 16000000 in
set_option maxRecDepth 1000000 in
/-- order2 -/
theorem order2_m (L : SlLaysF.n57 P ρ) (enc : α → Value) (cf : α → α → Int) (g : Nat) (rv : Value) (blk off cap : Nat) (a b c s : Nat) (d0 d : Array α) (w0 w : World)
    (eg : ∀ args w, (callFunc g args).run P w = .ok (.enter g args) w) (hcmp : CmpM P g rv enc cf blk off d0.size w0) (R : Row1 enc w0 blk off d0) (hs : d0.size = d.size) (C : Cnt1 enc w0 blk off d c s w) (ha : a < d.size) (hb : b < d.size) (hss : s < 4611686018427387904) (hsz : d.size < 4611686018427387904) :
    Calls P (ρ.f 57) #[.slice (some ⟨blk, off, none⟩) d.size cap, .int .i64 a, .int .i64 b, .pointer (some ⟨c, 0, none⟩), .func (.func g) #[rv] #[]] w fun e w' => e = .returned (.tuple #[.int .i64 (order2 (ltOf cf) d a b s).1, .int .i64 (order2 (ltOf cf) d a b s).2.1]) ∧ Cnt1 enc w0 blk off d c (order2 (ltOf cf) d a b s).2.2 w' := by
  have mixed := L.mixed; have t0 := L.t0; have a0 := L.a0; have z0 := L.z0; have v0 := L.v0; have t3 := L.t3; have a3 := L.a3; have z3 := L.z3; have v3 := L.v3; have t4 := L.t4; have a4 := L.a4; have z4 := L.z4; have v4 := L.v4; have t22 := L.t22; have a22 := L.a22; have z22 := L.z22; have v22 := L.v22; have a24 := L.a24; have z24 := L.z24; have t25 := L.t25; have a25 := L.a25; have z25 := L.z25; have v25 := L.v25; have t70 := L.t70; have a70 := L.a70; have z70 := L.z70; have v70 := L.v70
  have u22 := run_underlying L.t22
  have hcl0 := R.hO.cells
  simp only [Value.cells] at hcl0
  have hst := R.hO.store P
  obtain ⟨_, _, FG⟩ := L.f57
  have HC : Aside _ := hcmp
  have C1 : Aside (Cnt1 enc w0 blk off d c s w) := C
  have S1 : Aside (SW enc w0 blk off d w) := C.1
  clear hcmp C
  go_enter FG, SlBodyF.n57_ntmps ρ
  obtain ⟨i1, j1, x1, y1, q1, ea1, pa1, ba1, ra1, eb1, pb1, bb1, rb1, la1, lb1, hc1, hd1, hq1⟩ := look S1 HC R (D := (d.size : Int)) (by omega) (by omega) ((b : Int)) ((a : Int)) (b) (a) (by omega) (by omega) (by omega) (by omega) (by omega)
  have hq1 : Aside _ := hq1
  go_wp2_with fail
  go_quiet_grown (first | (go_at_fn g; refine Calls.grown_of (hc1 _ _)))
  have S2 : Aside (SW enc w0 blk off d (grow (w.drewN nq) osq)) := S1.out.grown nq osq
  have C2 : Aside (Cnt1 enc w0 blk off d c s (grow (w.drewN nq) osq)) := C1.out.grown nq osq
  clear la1 lb1 hc1 S1 C1
  generalize grow (w.drewN nq) osq = w2 at S2 C2 ⊢
  clear nq osq
  clear ea1 eb1
  obtain ⟨_, cc, cfz, _, _⟩ := C2.out
  cases q1 with
  | true =>
    have e2 : order2 (ltOf cf) d a b s = (b, a, s + 1) := by simp [order2, hq1.out]
    go_wp2
    go_ret2
    rw [e2]
    exact ⟨rfl, by have := C2.out.bump (s + 1); simpa using this⟩
  | false =>
    have e2 : order2 (ltOf cf) d a b s = (a, b, s) := by simp [order2, hq1.out]
    go_wp2
    go_ret2
    rw [e2]
    exact ⟨rfl, C2.out⟩
set_option maxHeartbeats 16000000 in
set_option maxRecDepth 1000000 in
/-- median -/
theorem median_m (L : SlLaysF.n50 P ρ) (enc : α → Value) (cf : α → α → Int) (g : Nat) (rv : Value) (blk off cap : Nat) (a b c' c s : Nat) (d0 d : Array α) (w0 w : World)
    (eg : ∀ args w, (callFunc g args).run P w = .ok (.enter g args) w) (hcmp : CmpM P g rv enc cf blk off d0.size w0) (R : Row1 enc w0 blk off d0) (hs : d0.size = d.size) (C : Cnt1 enc w0 blk off d c s w) (ha : a < d.size) (hb : b < d.size) (hc : c' < d.size) (hss : s + 3 < 4611686018427387904) (hsz : d.size < 4611686018427387904) :
    Calls P (ρ.f 50) #[.slice (some ⟨blk, off, none⟩) d.size cap, .int .i64 a, .int .i64 b, .int .i64 c', .pointer (some ⟨c, 0, none⟩), .func (.func g) #[rv] #[]] w fun e w' => e = .returned (.int .i64 (median (ltOf cf) d a b c' s).1) ∧ Cnt1 enc w0 blk off d c (median (ltOf cf) d a b c' s).2 w' := by
  have mixed := L.mixed; have t0 := L.t0; have a0 := L.a0; have z0 := L.z0; have v0 := L.v0; have t3 := L.t3; have a3 := L.a3; have z3 := L.z3; have v3 := L.v3; have t4 := L.t4; have a4 := L.a4; have z4 := L.z4; have v4 := L.v4; have t22 := L.t22; have a22 := L.a22; have z22 := L.z22; have v22 := L.v22; have a24 := L.a24; have z24 := L.z24; have t25 := L.t25; have a25 := L.a25; have z25 := L.z25; have v25 := L.v25; have t70 := L.t70; have a70 := L.a70; have z70 := L.z70; have v70 := L.v70; have t77 := L.t77; have a77 := L.a77; have z77 := L.z77; have v77 := L.v77
  have u22 := run_underlying L.t22
  have hcl0 := R.hO.cells
  simp only [Value.cells] at hcl0
  have hst := R.hO.store P
  obtain ⟨_, _, FG⟩ := L.f50
  have e57 : ∀ args w, (callFunc (ρ.f 57) args).run P w = .ok (.enter (ρ.f 57) args) w := L.f57.enters rfl
  have l1 := order2_lt' (ltOf cf) d s ha hb
  have s1 := order2_swaps' (ltOf cf) d a b s
  have l2 := order2_lt' (ltOf cf) d (order2 (ltOf cf) d a b s).2.2 l1.2 hc
  have s2 := order2_swaps' (ltOf cf) d (order2 (ltOf cf) d a b s).2.1 c' (order2 (ltOf cf) d a b s).2.2
  have step := fun (W' : World) (t a' b' : Nat) (C' : Cnt1 enc w0 blk off d c t W') (ha' : a' < d.size) (hb' : b' < d.size) (ht : t < 4611686018427387904) =>
    order2_m (P := P) (ρ := ρ) { L with } enc cf g rv blk off cap a' b' c t d0 d w0 W' eg hcmp R hs C' ha' hb' ht hsz
  clear hcmp
  go_enter FG, SlBodyF.n50_ntmps ρ
  go_wp2_with (go_at_fn_of (ρ.f 57) (Value.int .i64 (b : Int)); refine (step _ _ _ _ C ha hb (by omega)).mono ?_; rintro e w1 ⟨rfl, C1⟩)
  go_wp2_with (go_at_fn_of (ρ.f 57) (Value.int .i64 (c' : Int)); refine (step _ _ _ _ C1 l1.2 hc (by omega)).mono ?_; rintro e w2 ⟨rfl, C2⟩)
  go_wp2_with (go_at_fn_of (ρ.f 57) (Value.int .i64 ((order2 (ltOf cf) d a b s).1 : Int)); refine (step _ _ _ _ C2 l1.1 l2.1 (by omega)).mono ?_; rintro e w3 ⟨rfl, C3⟩)
  go_ret
  exact ⟨rfl, C3⟩
set_option maxHeartbeats 16000000 in
set_option maxRecDepth 1000000 in
/-- medianAdjacent -/
theorem medianAdjacent_m (L : SlLaysF.n49 P ρ) (enc : α → Value) (cf : α → α → Int) (g : Nat) (rv : Value) (blk off cap : Nat) (a c s : Nat) (d0 d : Array α) (w0 w : World)
    (eg : ∀ args w, (callFunc g args).run P w = .ok (.enter g args) w) (hcmp : CmpM P g rv enc cf blk off d0.size w0) (R : Row1 enc w0 blk off d0) (hs : d0.size = d.size) (C : Cnt1 enc w0 blk off d c s w) (ha1 : 1 ≤ a) (ha2 : a + 1 < d.size) (hss : s + 3 < 4611686018427387904) (hsz : d.size < 4611686018427387904) :
    Calls P (ρ.f 49) #[.slice (some ⟨blk, off, none⟩) d.size cap, .int .i64 a, .pointer (some ⟨c, 0, none⟩), .func (.func g) #[rv] #[]] w fun e w' => e = .returned (.int .i64 (medianAdjacent (ltOf cf) d a s).1) ∧ Cnt1 enc w0 blk off d c (medianAdjacent (ltOf cf) d a s).2 w' := by
  have mixed := L.mixed; have t0 := L.t0; have a0 := L.a0; have z0 := L.z0; have v0 := L.v0; have t3 := L.t3; have a3 := L.a3; have z3 := L.z3; have v3 := L.v3; have t4 := L.t4; have a4 := L.a4; have z4 := L.z4; have v4 := L.v4; have t22 := L.t22; have a22 := L.a22; have z22 := L.z22; have v22 := L.v22; have a24 := L.a24; have z24 := L.z24; have t25 := L.t25; have a25 := L.a25; have z25 := L.z25; have v25 := L.v25; have t70 := L.t70; have a70 := L.a70; have z70 := L.z70; have v70 := L.v70; have t77 := L.t77; have a77 := L.a77; have z77 := L.z77; have v77 := L.v77
  have u22 := run_underlying L.t22
  have hcl0 := R.hO.cells
  simp only [Value.cells] at hcl0
  have hst := R.hO.store P
  obtain ⟨_, _, FG⟩ := L.f49
  have e50 : ∀ args w, (callFunc (ρ.f 50) args).run P w = .ok (.enter (ρ.f 50) args) w := L.f50.enters rfl
  have hm := median_m (P := P) (ρ := ρ) { L with } enc cf g rv blk off cap (a - 1) a (a + 1) c s d0 d w0 w eg hcmp R hs C (by omega) (by omega) ha2 hss hsz
  rw [show ((a - 1 : Nat) : Int) = (a : Int) - 1 by omega, show ((a + 1 : Nat) : Int) = (a : Int) + 1 by omega] at hm
  clear hcmp
  go_enter FG, SlBodyF.n49_ntmps ρ
  go_wp2_with (go_at_fn (ρ.f 50); refine hm.mono ?_; rintro e w1 ⟨rfl, C1⟩)
  go_ret
  exact ⟨rfl, C1⟩
end Ms
end Go.Proofs.YtnmcajinaigcjaaGreatDoor

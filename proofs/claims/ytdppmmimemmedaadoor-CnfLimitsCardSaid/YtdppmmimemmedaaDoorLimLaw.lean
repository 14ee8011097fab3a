/- The walk of haversacklaw15.CnfLimits. -/
import Derived.Test.YtdppmmimemmedaaDoorOppLaw
import Derived.Test.YtdppmmimemmedaaDoorNum
namespace Go.Proofs.YtdppmmimemmedaaDoor
open Go.RowKit Go.Shelf

theorem M.addC_taut {x : Int} (h : M.isLit x = true) : M.addC [[]] [x, -x] = [[]] := by
  have : M.adj (M.norm [x, -x]) = true := (M.adj_norm (c := [x, -x]) (fun y hy => by simp at hy; rcases hy with rfl | rfl; exact h; exact isLit_neg' h)).2 ⟨x, by simp, by simp⟩
  unfold M.addC; rw [if_pos this]
theorem mod_sub (x : Int) : ∃ V : Nat, wrap64 (20000 - wrap64 ((IntKind.u64.wrap x).tmod 10)) = (V : Int) ∧ 19991 ≤ V ∧ V ≤ 20000 := by
  have h0 : 0 ≤ IntKind.u64.wrap x := by rw [IntKind.wrap_u64]; omega
  rw [Int.tmod_eq_emod_of_nonneg h0]
  have h1 := Int.emod_nonneg (IntKind.u64.wrap x) (show (10 : Int) ≠ 0 by omega)
  have h2 := Int.emod_lt_of_pos (IntKind.u64.wrap x) (show (0 : Int) < 10 by omega)
  generalize IntKind.u64.wrap x % 10 = r at *
  rw [IntWalk.wrap64_in r ⟨by omega, by omega⟩, IntWalk.wrap64_in (20000 - r) ⟨by omega, by omega⟩]
  exact ⟨(20000 - r).toNat, by omega, by omega, by omega⟩
theorem mod_plain (x : Int) : ∃ V : Nat, wrap64 ((IntKind.u64.wrap x).tmod 20) = (V : Int) ∧ V < 20 := by
  have h0 : 0 ≤ IntKind.u64.wrap x := by rw [IntKind.wrap_u64]; omega
  rw [Int.tmod_eq_emod_of_nonneg h0]
  have h1 := Int.emod_nonneg (IntKind.u64.wrap x) (show (20 : Int) ≠ 0 by omega)
  have h2 := Int.emod_lt_of_pos (IntKind.u64.wrap x) (show (0 : Int) < 20 by omega)
  generalize IntKind.u64.wrap x % 20 = r at *
  rw [IntWalk.wrap64_in r ⟨by omega, by omega⟩]
  exact ⟨r.toNat, by omega, by omega⟩
/-- so many more variables, or none -/
theorem many_fits {X : Nat → Prop} (base p vars n : Nat) (cs : List (List Int)) (a : Option Addr) (c : Nat) (w : World) (hF : Fm X w base p vars cs a c) (hv : vars + n ≤ 20000) (hb : base ≤ w.heap.size) :
    Calls Tryd.prog 16 #[.pointer (some ⟨p, 0, none⟩), .int .i64 n] w fun e w' => ∃ s U, e = .returned (.tuple #[s, .nilIface]) ∧ Fm X w' base p U cs a c ∧ vars ≤ U ∧ AllBut p w w' := by
  by_cases hn : 1 ≤ n
  · exact (many_ok base p vars n cs a c w hF hn hv hb).mono fun e w' h => ⟨_, _, h.1, h.2.1, by omega, h.2.2.2⟩
  · exact (many_zero p n w (by omega)).mono fun e w' h => ⟨_, vars, h.1, by rw [← h.2]; exact hF, Nat.le_refl _, by rw [← h.2]; exact AllBut.of_below (Below.refl _ _)⟩
set_option maxHeartbeats 4000000 in
set_option maxRecDepth 100000 in
theorem limLaw (x y : Int) (A : Nat → Addr) (w : World) (hx : I64 x) (hy : I64 y) (hE : Errs w A) :
    Calls Tryd.prog 9 #[.int .i64 x, .int .i64 y] w fun e w' => e = .returned (.bool true) ∧ Below w.heap.size w w' := by
  have hx1 := hx.lo
  have hx2 := hx.hi
  have hy1 := hy.lo
  have hy2 := hy.hi
  have HE := Lib.hid hE
  clear hx hy hE
  go_enter Tryd.func9, Tryd.ntmps9
  go_wp2_with fail
  refine (alive15 w).mono ?_
  rintro e W0 ⟨rfl, hb0⟩
  have HB0 := Lib.hid hb0
  clear hb0
  obtain ⟨V, hV, hV1, hV2⟩ := mod_sub x
  obtain ⟨m, hm, hm1⟩ := mod_plain y
  have HV := Lib.hid hV
  have HM := Lib.hid hm
  clear hV hm
  go_wp2_with fail
  rw [HV.out, HM.out]
  clear HV HM hx1 hx2 hy1 hy2
  refine (new_any _).mono ?_
  rintro e W1 ⟨rfl, hW1⟩
  have hF1 : Fm NoX W1 w.heap.size W0.heap.size 0 [] none 0 := by rw [← hW1]; exact Fm.new W0 _ HB0.out.size (NoX.lt _)
  have hb1 : Below w.heap.size w W1 := by rw [← hW1]; exact below_alloc HB0.out _
  have HB1 := Lib.hid hb1
  have hmany := many_ok w.heap.size W0.heap.size 0 V [] none 0 W1 hF1 (by omega) (by omega) hb1.size
  have HMA := Lib.hid hmany
  clear hW1 hb1 hF1 hmany
  go_wp2_with fail
  refine HMA.out.mono ?_
  rintro e W2 ⟨rfl, hF2, hO2, hA2⟩
  have hge : w.heap.size ≤ W0.heap.size := HB0.out.size
  have hb2 : Below w.heap.size w W2 := HB1.out.trans (hA2.below hge HB1.out.size)
  rw [Nat.zero_add] at hF2
  have hc0 := hF2.cell0
  have HC0 := Lib.hid hc0
  have HF2 := Lib.hid hF2
  have HB2 := Lib.hid hb2
  clear hF2 hO2 hA2 hb2 HMA hc0
  have hvb : (((V : Nat) : Int) != ((V : Nat) : Int)) = false := by simp
  by_cases hfit : V + m ≤ 20000
  · have h2 := many_fits w.heap.size W0.heap.size V m [] none 0 W2 HF2.out hfit HB2.out.size
    have H2 := Lib.hid h2
    have hd : decide ((m : Int) ≤ 20000 - (V : Int)) = true := by simp; omega
    clear h2
    go_wp2_with fail
    refine H2.out.mono ?_
    rintro e W3 ⟨s, U, rfl, hF3, hVU, hA3⟩
    have hb3 : Below w.heap.size w W3 := HB2.out.trans (hA3.below hge HB2.out.size)
    have HF3 := Lib.hid hF3
    have HB3 := Lib.hid hb3
    clear hF3 hA3 hb3 H2 HB2 HF2 HC0
    have hF := HF3.out
    have hadd := add_ok w.heap.size W0.heap.size U [] none 0 none 0 [] W3 hF (Ints.nil _ _) rfl (by simp)
    rw [show M.addC [] [] = [[]] from rfl] at hadd
    have HADD := Lib.hid hadd
    clear hadd hF
    go_wp2_with fail
    refine HADD.out.mono ?_
    rintro e W4 ⟨rfl, a4, c4, hF4, hk4⟩
    have hb4 : Below w.heap.size w W4 := HB3.out.trans (hk4.below HB3.out.size)
    have hV20 : V ≤ 20000 := by omega
    have hlv : M.isLit (V : Int) = true := by rw [M.isLit_iff]; omega
    have hown : M.own U [(V : Int), -(V : Int)] = true := by
      rw [M.own_iff]; intro y hy; simp at hy; rcases hy with rfl | rfl <;> omega
    have hadd := add_ok w.heap.size W0.heap.size U [[]] a4 c4 (some ⟨W4.heap.size, 0, none⟩) 2 [(V : Int), -(V : Int)] (W4.alloc (.cells #[.int .i64 (V : Int), .int .i64 (-(V : Int))] 3)) (hF4.below (below_alloc (Below.refl _ _) _)) (Ints.two W4 _ _ (I64.of_lit hlv) (I64.of_lit (isLit_neg' hlv)) _) hown (by simp)
    rw [M.addC_taut hlv] at hadd
    have HADD2 := Lib.hid hadd
    have HB4 := Lib.hid (below_alloc hb4 (.cells #[.int .i64 (V : Int), .int .i64 (-(V : Int))] 3))
    clear hadd hF4 hk4 hb4 HADD hown hlv HB3 HF3
    go_wp2_with fail
    refine HADD2.out.mono ?_
    rintro e W5 ⟨rfl, a5, c5, hF5, hk5⟩
    have hb5 : Below w.heap.size w W5 := HB4.out.trans (hk5.below HB4.out.size)
    have hcl := clauses_any _ _ _ _ a5 c5 W5 hF5 (NoX.lt W5)
    have HCL := Lib.hid hcl
    have HB5 := Lib.hid hb5
    clear hcl hF5 hb5 hk5 HADD2 HB4
    go_wp2_with fail
    refine HCL.out.mono ?_
    rintro e W6 ⟨rfl, hO6, hb6⟩
    have HB6 := Lib.hid (below_next HB5.out hb6)
    obtain ⟨a0, c0, hc0, hi0, _⟩ := hO6.cell (i := 0) (x := []) rfl
    have hall := rall_any (some ⟨W5.heap.size, 0, none⟩) 1 [[]] none 0 [] W6 (hO6.cls (by simp)) ⟨fun h => by simp at h, by simp⟩
    have hall' := hall.mono fun e w' (h : e = .returned (.bool (M.allTrue [[]] [])) ∧ _) => (⟨h.1, h.2⟩ : e = .returned (.bool false) ∧ _)
    have HALL := Lib.hid hall'
    clear hO6 hb6 hi0 hall hall' HCL HB5
    simp only [List.length_cons, List.length_nil, Nat.zero_add] at hc0 ⊢
    go_wp2_with fail
    refine HALL.out.mono ?_
    rintro e W7 ⟨rfl, rfl⟩
    go_wp2
    go_ret
    exact ⟨rfl, HB6.out⟩
  · have hEL := (HE.out.below HB2.out).at' 11 _ rfl
    have h2 := many_limit W0.heap.size V m _ W2 HC0.out (by omega) (by omega) (by omega) hEL.cell
    unfold errAt at h2
    have H2 := Lib.hid h2
    have hd : decide ((m : Int) ≤ 20000 - (V : Int)) = false := by simp; omega
    have hnum := num_err A 11
    clear h2 hEL
    go_wp2_with fail
    refine H2.out.mono ?_
    rintro e W3 ⟨rfl, q, hW3⟩
    have hb3' : Below W2.heap.size W2 W3 := by rw [hW3]; exact bDrewN _ _ _
    have hb3 : Below w.heap.size w W3 := below_next HB2.out hb3'
    have hF3 := HF2.out.below hb3'
    have hn := hnum W3 (by omega) (HE.out.below hb3)
    unfold errAt at hn
    have HNU := Lib.hid hn
    clear hW3 H2 hnum hn
    go_wp2_with fail
    refine HNU.out.mono ?_
    rintro e W3b ⟨rfl, hb3b⟩
    have hbb : Below w.heap.size w W3b := below_next hb3 hb3b
    have hFb := hF3.below hb3b
    obtain ⟨U, hU⟩ : ∃ U, V = U := ⟨V, rfl⟩
    have hVU : V ≤ U := by omega
    rw [hU] at hFb
    clear hU hF3 hb3' hb3b hb3 HB2 HF2 HC0 HNU
    have HF3 := Lib.hid hFb
    have HB3 := Lib.hid hbb
    clear hFb hbb
    have hF := HF3.out
    have hadd := add_ok w.heap.size W0.heap.size U [] none 0 none 0 [] W3b hF (Ints.nil _ _) rfl (by simp)
    rw [show M.addC [] [] = [[]] from rfl] at hadd
    have HADD := Lib.hid hadd
    clear hadd hF
    go_wp2_with fail
    refine HADD.out.mono ?_
    rintro e W4 ⟨rfl, a4, c4, hF4, hk4⟩
    have hb4 : Below w.heap.size w W4 := HB3.out.trans (hk4.below HB3.out.size)
    have hV20 : V ≤ 20000 := by omega
    have hlv : M.isLit (V : Int) = true := by rw [M.isLit_iff]; omega
    have hown : M.own U [(V : Int), -(V : Int)] = true := by
      rw [M.own_iff]; intro y hy; simp at hy; rcases hy with rfl | rfl <;> omega
    have hadd := add_ok w.heap.size W0.heap.size U [[]] a4 c4 (some ⟨W4.heap.size, 0, none⟩) 2 [(V : Int), -(V : Int)] (W4.alloc (.cells #[.int .i64 (V : Int), .int .i64 (-(V : Int))] 3)) (hF4.below (below_alloc (Below.refl _ _) _)) (Ints.two W4 _ _ (I64.of_lit hlv) (I64.of_lit (isLit_neg' hlv)) _) hown (by simp)
    rw [M.addC_taut hlv] at hadd
    have HADD2 := Lib.hid hadd
    have HB4 := Lib.hid (below_alloc hb4 (.cells #[.int .i64 (V : Int), .int .i64 (-(V : Int))] 3))
    clear hadd hF4 hk4 hb4 HADD hown hlv HB3 HF3
    go_wp2_with fail
    refine HADD2.out.mono ?_
    rintro e W5 ⟨rfl, a5, c5, hF5, hk5⟩
    have hb5 : Below w.heap.size w W5 := HB4.out.trans (hk5.below HB4.out.size)
    have hcl := clauses_any _ _ _ _ a5 c5 W5 hF5 (NoX.lt W5)
    have HCL := Lib.hid hcl
    have HB5 := Lib.hid hb5
    clear hcl hF5 hb5 hk5 HADD2 HB4
    go_wp2_with fail
    refine HCL.out.mono ?_
    rintro e W6 ⟨rfl, hO6, hb6⟩
    have HB6 := Lib.hid (below_next HB5.out hb6)
    obtain ⟨a0, c0, hc0, hi0, _⟩ := hO6.cell (i := 0) (x := []) rfl
    have hall := rall_any (some ⟨W5.heap.size, 0, none⟩) 1 [[]] none 0 [] W6 (hO6.cls (by simp)) ⟨fun h => by simp at h, by simp⟩
    have hall' := hall.mono fun e w' (h : e = .returned (.bool (M.allTrue [[]] [])) ∧ _) => (⟨h.1, h.2⟩ : e = .returned (.bool false) ∧ _)
    have HALL := Lib.hid hall'
    clear hO6 hb6 hi0 hall hall' HCL HB5
    simp only [List.length_cons, List.length_nil, Nat.zero_add] at hc0 ⊢
    go_wp2_with fail
    refine HALL.out.mono ?_
    rintro e W7 ⟨rfl, rfl⟩
    go_wp2
    go_ret
    exact ⟨rfl, HB6.out⟩
end Go.Proofs.YtdppmmimemmedaaDoor

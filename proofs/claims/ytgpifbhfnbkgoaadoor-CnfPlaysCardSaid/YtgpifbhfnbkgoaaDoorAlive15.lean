/- haversacklaw15.alive: the chapter's example holds. -/
import Derived.Test.YtgpifbhfnbkgoaaDoorAnd2
namespace Go.Proofs.YtgpifbhfnbkgoaaDoor
open Go.RowKit Go.Shelf

theorem Ints.three (w : World) (x y z : Int) (hx : I64 x) (hy : I64 y) (hz : I64 z) (e : TypeId) : Ints (w.alloc (.cells #[.int .i64 x, .int .i64 y, .int .i64 z] e)) (some ⟨w.heap.size, 0, none⟩) [x, y, z] := by
  refine ⟨fun _ => ⟨_, 0, rfl, by simp, fun i u hu => ?_⟩, fun u hu => by simp at hu; rcases hu with rfl | rfl | rfl <;> assumption, by simp⟩
  match i, hu with
  | 0, hu => simp at hu; subst hu; simp
  | 1, hu => simp at hu; subst hu; simp
  | 2, hu => simp at hu; subst hu; simp
theorem tag_alloc (w : World) (cur : Array Value) : TagI (w.alloc (.cells cur 3)) (some ⟨w.heap.size, 0, none⟩) := fun ad e => by
  cases e; exact ⟨cur, (0, 0), by show (w.heap.push _)[w.heap.size]? = _; simp⟩
theorem AllBut.below {p B : Nat} {w w' : World} (h : AllBut p w w') (hp : B ≤ p) (hB : B ≤ w.heap.size) : Below B w w' := ⟨h.os, h.tape, h.output, h.size, fun k hk => h.block k (by omega) (by omega)⟩
theorem i64_small {z : Int} (h : -100000 ≤ z ∧ z ≤ 100000) : I64 z := ⟨by omega, by omega⟩
theorem aliveC : (M.andC (3 : Int) [1, -2]).foldl M.addC [] = [[1, -3], [-2, -3], [-1, 2, 3]] := by decide
set_option maxHeartbeats 2000000 in
theorem alive15 (w : World) : Calls Tryd.prog 6 #[] w fun e w' => e = .returned (.bool true) ∧ Below w.heap.size w w' := by
  go_enter Tryd.func6, Tryd.ntmps6
  go_wp2_with fail
  refine (new_any _).mono ?_
  rintro e W1 ⟨rfl, hW1⟩
  have hF1 : Fm NoX W1 w.heap.size w.heap.size 0 [] none 0 := by rw [← hW1]; exact Fm.new w _ (Nat.le_refl _) (NoX.lt _)
  have hb1 : Below w.heap.size w W1 := by rw [← hW1]; exact below_alloc (Below.refl _ _) _
  clear hW1
  have hm : Calls Tryd.prog 17 #[.pointer (some ⟨w.heap.size, 0, none⟩), .int .i64 2] W1 (ManyOk NoX W1 w.heap.size w.heap.size 0 2 [] none 0) := many_ok w.heap.size w.heap.size 0 2 [] none 0 W1 hF1 (by omega) (by omega) hb1.size
  have HM := Lib.hid hm
  have HB1 := Lib.hid hb1
  clear hm hF1 hb1
  go_wp2_with fail
  refine HM.out.mono ?_
  rintro e W2 ⟨rfl, hF2, hO2, hA2⟩
  have hb2 : Below w.heap.size w W2 := HB1.out.trans (hA2.below (Nat.le_refl _) HB1.out.size)
  have HF2 := Lib.hid hF2
  have HB2 := Lib.hid hb2
  clear hF2 hO2 hA2 hb2 HM
  have ha := and_ok w.heap.size w.heap.size 2 [] none 0 (some ⟨W2.heap.size, 0, none⟩) 2 [1, -2] (W2.alloc (.cells #[.int .i64 1, .int .i64 (-2)] 3)) (HF2.out.below (below_alloc (Below.refl _ _) _)) (put_size1 HB2.out) (Ints.two _ _ _ (i64_small (by omega)) (i64_small (by omega)) _) (tag_alloc W2 _).kept (by decide) (by omega) (by simp)
  have ha' : Calls Tryd.prog 32 #[.pointer (some ⟨w.heap.size, 0, none⟩), .slice (some ⟨W2.heap.size, 0, none⟩) 2 2] (W2.alloc (.cells #[.int .i64 1, .int .i64 (-2)] 3)) (fun e w' => e = .returned (.tuple #[.int .i64 3, .nilIface]) ∧ FmPost NoX (W2.alloc (.cells #[.int .i64 1, .int .i64 (-2)] 3)) w.heap.size w.heap.size 3 [[1, -3], [-2, -3], [-1, 2, 3]] w') := ha.mono fun e w' ⟨h1, h2⟩ => ⟨h1, by rw [← aliveC]; exact h2⟩
  have HA := Lib.hid ha'
  clear ha ha'
  go_wp2_with fail
  refine HA.out.mono ?_
  rintro e W3 ⟨rfl, a3, c3, hF3, hk3⟩
  have hb3 : Below w.heap.size w W3 := (below_alloc HB2.out _).trans (hk3.below (put_size1 HB2.out))
  have hc := clauses_any w.heap.size w.heap.size 3 _ a3 c3 W3 hF3 (NoX.lt W3)
  have HC := Lib.hid hc
  have HB3 := Lib.hid hb3
  clear hc hF3 hk3 hb3 HA
  go_wp2_with fail
  refine HC.out.mono ?_
  rintro e W4 ⟨rfl, hO4, hb4⟩
  have HB4 := Lib.hid (below_next HB3.out hb4)
  obtain ⟨a0, c0, hc0, hi0, _⟩ := hO4.cell (i := 0) (x := [1, -3]) rfl
  obtain ⟨a2, c2, hc2, hi2, _⟩ := hO4.cell (i := 2) (x := [-1, 2, 3]) rfl
  have HO4 := Lib.hid hO4
  have HI0 := Lib.hid hi0
  have HI2 := Lib.hid hi2
  have hsz : W3.heap.size < W4.heap.size := by
    obtain ⟨_, cur, hg⟩ := hO4.row _ rfl
    exact (Array.getElem?_eq_some_iff.1 hg).1
  clear hO4 hb4 hi0 hi2 HC
  simp only [List.length_cons, List.length_nil] at hc0 hc2 ⊢
  have hs1 := sameInts_any a0 c0 [1, -3] (some ⟨W4.heap.size, 0, none⟩) 2 [1, -3] (W4.alloc (.cells #[.int .i64 1, .int .i64 (-3)] 3)) (HI0.out.alloc _) (Ints.two _ _ _ (i64_small (by omega)) (i64_small (by omega)) _)
  have hs1' := hs1.mono fun e w' (h : e = .returned (.bool (M.eqs [1, -3] [1, -3])) ∧ _) => (⟨h.1, h.2⟩ : e = .returned (.bool true) ∧ _)
  have HS1 := Lib.hid hs1'
  clear hs1 hs1'
  go_wp2_with fail
  refine HS1.out.mono ?_
  rintro e W5 ⟨rfl, q, hW5⟩
  have hb5 : Below W4.heap.size W4 W5 := by rw [hW5]; exact (below_alloc (Below.refl _ _) _).trans (bDrewN _ _ _)
  have HB5 := Lib.hid (below_next HB4.out hb5)
  have hc5 := (hb5.cell (p := ⟨W3.heap.size, 2, none⟩) hsz).trans hc2
  have hs2 := sameInts_any a2 c2 [-1, 2, 3] (some ⟨W5.heap.size, 0, none⟩) 3 [-1, 2, 3] (W5.alloc (.cells #[.int .i64 (-1), .int .i64 2, .int .i64 3] 3)) ((HI2.out.below hb5).alloc _) (Ints.three _ _ _ _ (i64_small (by omega)) (i64_small (by omega)) (i64_small (by omega)) _)
  have hs2' := hs2.mono fun e w' (h : e = .returned (.bool (M.eqs [-1, 2, 3] [-1, 2, 3])) ∧ _) => (⟨h.1, h.2⟩ : e = .returned (.bool true) ∧ _)
  have HS2 := Lib.hid hs2'
  clear hs2 hs2' hb5 hW5 HS1 hc0 hc2
  go_wp2_with fail
  refine HS2.out.mono ?_
  rintro e W6 ⟨rfl, q2, hW6⟩
  have hb6 : Below W5.heap.size W5 W6 := by rw [hW6]; exact (below_alloc (Below.refl _ _) _).trans (bDrewN _ _ _)
  have HB6 := Lib.hid (below_next HB5.out hb6)
  clear hb6 hW6 HS2 hc5
  go_wp2
  go_ret
  exact ⟨rfl, HB6.out⟩
end Go.Proofs.YtgpifbhfnbkgoaaDoor

/- haversacklaw16.alive: the chapter's example holds. -/
import Derived.Test.YtllkeojkejbbeaaDoorSBits
namespace Go.Proofs.YtllkeojkejbbeaaDoor
open Go.RowKit Go.Shelf

theorem Wts.two (w : World) (l1 w1 l2 w2 : Int) (h1 : I64 l1) (h2 : I64 w1) (h3 : I64 l2) (h4 : I64 w2) (e : TypeId) : Wts (w.alloc (.cells #[.int .i64 l1, .int .i64 w1, .int .i64 l2, .int .i64 w2] e)) (some ⟨w.heap.size, 0, none⟩) [(l1, w1), (l2, w2)] := by
  refine ⟨fun _ => ⟨_, 0, rfl, by simp, fun i t ht => ?_⟩, fun t ht => ?_, by simp⟩
  · match i, ht with
    | 0, ht => simp at ht; subst ht; simp
    | 1, ht => simp at ht; subst ht; simp
  · simp at ht; rcases ht with rfl | rfl
    · exact ⟨h1, h2⟩
    · exact ⟨h3, h4⟩
theorem dig5 : (M.dig (M.wSum [(1, 2), (2, 3)])).length = 3 := by
  have e : M.wSum [(1, 2), (2, 3)] = 5 := rfl
  rw [e, M.dig_pos (by decide), M.dig_pos (by decide), M.dig_pos (by decide)]
  have e2 : 5 / 2 / 2 / 2 = 0 := by decide
  rw [e2, M.dig_zero]; rfl
theorem i64_small' {z : Int} (h : -100000 ≤ z ∧ z ≤ 100000) : I64 z := ⟨by omega, by omega⟩
set_option maxHeartbeats 2000000 in
set_option maxRecDepth 100000 in
theorem alive16 (w : World) : Calls Tryd.prog 30 #[] w fun e w' => e = .returned (.bool true) ∧ Below w.heap.size w w' := by
  go_enter Tryd.func30, Tryd.ntmps30
  go_wp2_with fail
  refine (new_any _).mono ?_
  rintro e W1 ⟨rfl, hW1⟩
  have hF1 : Fm NoX W1 w.heap.size w.heap.size 0 [] none 0 := by rw [← hW1]; exact Fm.new w _ (Nat.le_refl _) (NoX.lt _)
  have hb1 : Below w.heap.size w W1 := by rw [← hW1]; exact (Below.refl _ _).alloc (Nat.le_refl _) _
  clear hW1
  have hm : Calls Tryd.prog 21 #[.pointer (some ⟨w.heap.size, 0, none⟩), .int .i64 2] W1 (ManyOk NoX W1 w.heap.size w.heap.size 0 2 [] none 0) := many_ok w.heap.size w.heap.size 0 2 [] none 0 W1 hF1 (by omega) (by omega) hb1.size
  have HM := Lib.hid hm
  have HB1 := Lib.hid hb1
  clear hm hF1 hb1
  go_wp2_with fail
  refine HM.out.mono ?_
  rintro e W2 ⟨rfl, hF2, hO2, hA2⟩
  have hb2 : Below w.heap.size w W2 := HB1.out.trans ⟨hA2.os, hA2.tape, hA2.output, hA2.size, fun k hk => hA2.block k (by have := HB1.out.size; omega) (by omega)⟩
  have HF2 := Lib.hid hF2
  have HB2 := Lib.hid hb2
  clear hF2 hO2 hA2 hb2 HM
  have hbd := bound_ok (some ⟨W2.heap.size, 0, none⟩) 2 [(1, 2), (2, 3)] (W2.alloc (.cells #[.int .i64 1, .int .i64 2, .int .i64 2, .int .i64 3] 57)) (Wts.two W2 1 2 2 3 (i64_small' (by omega)) (i64_small' (by omega)) (i64_small' (by omega)) (i64_small' (by omega)) _) rfl (by simp)
  have hbd' := hbd.mono fun e w' (h : e = .returned (.tuple #[.int .i64 ((M.wSum [(1, 2), (2, 3)] : Nat) : Int), .int .i64 ((M.wCnt [(1, 2), (2, 3)] : Nat) : Int), .nilIface]) ∧ _) => (⟨h.1, h.2⟩ : e = .returned (.tuple #[.int .i64 5, .int .i64 2, .nilIface]) ∧ _)
  have HBD := Lib.hid hbd'
  clear hbd hbd'
  go_wp2_with fail
  refine HBD.out.mono ?_
  rintro e W3 ⟨rfl, hb3⟩
  have hb23 : Below W2.heap.size W2 W3 := ((Below.refl _ _).alloc (Nat.le_refl _) _).trans (hb3.mono (by simp))
  have hF3 := HF2.out.below hb23
  have hb3' : Below w.heap.size w W3 := HB2.out.trans (hb23.mono HB2.out.size)
  have HF3 := Lib.hid hF3
  have HB3 := Lib.hid hb3'
  clear hb3 hb23 hF3 hb3' HBD HF2 HB2
  have hbt := bits_any w.heap.size w.heap.size 2 200 none 0 (some ⟨W3.heap.size, 0, none⟩) 2 [(1, 2), (2, 3)] (W3.alloc (.cells #[.int .i64 1, .int .i64 2, .int .i64 2, .int .i64 3] 57)) (HF3.out.below ((Below.refl _ _).alloc (Nat.le_refl _) _)) (by have := HB3.out.size; simp; omega)
    (Wts.two W3 1 2 2 3 (i64_small' (by omega)) (i64_small' (by omega)) (i64_small' (by omega)) (i64_small' (by omega)) _)
    (fun _ ad e _ => by cases e; exact .inr (.inr ⟨#[.int .i64 1, .int .i64 2, .int .i64 2, .int .i64 3], 57, (0, 0), (by show (W3.heap.push _)[W3.heap.size]? = _; simp), by decide, by decide⟩)) rfl (by simp) (by decide) (by simp) (by omega)
  have HBT := Lib.hid hbt
  clear hbt
  go_wp2_with fail
  refine HBT.out.mono ?_
  rintro e W4 ⟨gs, bits, a4, c4, rfl, hO4, ⟨a5, c5, hF5, hk5⟩, hS4⟩
  have hl : bits.length = 3 := by
    rw [hS4.bl]; exact dig5
  have hb4 : Below w.heap.size w W4 := (HB3.out.alloc HB3.out.size _).trans (hk5.below (by have := HB3.out.size; simp; omega))
  rw [hl]
  have HB4 := Lib.hid hb4
  clear hO4 hF5 hk5 hS4 hb4 HBT
  go_wp2
  go_ret
  exact ⟨rfl, HB4.out⟩
end Go.Proofs.YtllkeojkejbbeaaDoor

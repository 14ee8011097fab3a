/- Contracts of version's items: class, cmp.Compare, cmp.Or, compareItems, at. -/
import Derived.Test.YtnmcajinaigcjaaGreatDoorQRead
import Derived.Deep.RegionWith
import Derived.Deep.RegionHeld3
namespace Go.Proofs.YtnmcajinaigcjaaGreatDoor
open Go.RowKit
open Q (It Ver Tm Sp Rc Dm)

theorem class_any (n : Int) (s : ByteArray) (w : World) :
    Calls Tryz.prog 166 #[.agg #[.int .i64 n, .string s]] w fun e w' => e = .returned (.int .i64 (Q.clsL s.toList)) ∧ Below w.heap.size w w' := by
  go_enter Tryz.func166, Tryz.ntmps166
  go_wp2
  all_goals
    go_ret
    refine ⟨ret_int ?_, (Below.refl _ _).alloc (Nat.le_refl _) _⟩
    unfold Q.clsL
    simp_all
theorem isNaN_any (a : Int) (w : World) :
    Calls Tryz.prog 121 #[.int .i64 a] w fun e w' => e = .returned (.bool false) ∧ w = w' := by
  go_enter Tryz.func121, Tryz.ntmps121
  go_wp2
  go_ret
  exact ⟨rfl, rfl⟩
theorem compare_any (a b : Int) (w : World) :
    Calls Tryz.prog 82 #[.int .i64 a, .int .i64 b] w fun e w' => e = .returned (.int .i64 (Q.cmpI a b)) ∧ w = w' := by
  unfold Q.cmpI
  by_cases h1 : a < b
  · rw [if_pos h1]
    go_enter Tryz.func82, Tryz.ntmps82
    go_wp2_with (go_at_call 121; refine (isNaN_any _ _).mono ?_; rintro e w' ⟨rfl, rfl⟩)
    go_ret
    exact ⟨rfl, rfl⟩
  · rw [if_neg h1]
    by_cases h2 : b < a
    · rw [if_pos h2]
      go_enter Tryz.func82, Tryz.ntmps82
      go_wp2_with (go_at_call 121; refine (isNaN_any _ _).mono ?_; rintro e w' ⟨rfl, rfl⟩)
      go_ret
      exact ⟨rfl, rfl⟩
    · rw [if_neg h2]
      go_enter Tryz.func82, Tryz.ntmps82
      go_wp2_with (go_at_call 121; refine (isNaN_any _ _).mono ?_; rintro e w' ⟨rfl, rfl⟩)
      go_ret
      exact ⟨rfl, rfl⟩
theorem isNaNS_any (a : ByteArray) (w : World) :
    Calls Tryz.prog 120 #[.string a] w fun e w' => e = .returned (.bool false) ∧ w = w' := by
  go_enter Tryz.func120, Tryz.ntmps120
  go_wp2
  go_ret
  exact ⟨rfl, rfl⟩
theorem compareS_any (a b : ByteArray) (w : World) :
    Calls Tryz.prog 81 #[.string a, .string b] w fun e w' => e = .returned (.int .i64 (Q.cmpS a b)) ∧ w = w' := by
  go_enter Tryz.func81, Tryz.ntmps81
  go_wp2_with (go_at_call 120; refine (isNaNS_any _ _).mono ?_; rintro e w' ⟨rfl, rfl⟩)
  all_goals
    go_ret
    refine ⟨ret_int ?_, rfl⟩
    unfold Q.cmpS Q.less
    simp_all
theorem or3_any (B : Nat) (x y z : Int) (w : World) (h0 : w.cell? ⟨B, 0, none⟩ = some (.int .i64 x)) (h1 : w.cell? ⟨B, 1, none⟩ = some (.int .i64 y)) (h2 : w.cell? ⟨B, 2, none⟩ = some (.int .i64 z)) :
    Calls Tryz.prog 80 #[.slice (some ⟨B, 0, none⟩) 3 3] w fun e w' => e = .returned (.int .i64 (Q.or3 x y z)) ∧ w = w' := by
  have e0 : ∀ t : Int, (t == 0) = true ∨ (t == 0) = false := fun t => by cases (t == 0) <;> simp
  by_cases hx : x = 0
  · subst hx
    rw [show Q.or3 0 y z = if y = 0 then z else y from if_pos rfl]
    by_cases hy : y = 0
    · subst hy
      rw [if_pos rfl]
      by_cases hz : z = 0
      · subst hz
        clear e0
        go_enter Tryz.func80, Tryz.ntmps80
        go_wp2
        refine wp_loop_rounds 4 ?_
        rw [rounds_succ]
        go_wp2
        rw [rounds_succ]
        go_wp2
        rw [rounds_succ]
        go_wp2
        rw [rounds_succ]
        go_wp2
        go_ret
        exact ⟨rfl, rfl⟩
      · have hb : (z != 0) = true := by simpa using hz
        clear e0
        go_enter Tryz.func80, Tryz.ntmps80
        go_wp2
        refine wp_loop_rounds 3 ?_
        rw [rounds_succ]
        go_wp2
        rw [rounds_succ]
        go_wp2
        rw [rounds_succ]
        go_wp2
        go_ret
        exact ⟨rfl, rfl⟩
    · rw [if_neg hy]
      have hb : (y != 0) = true := by simpa using hy
      clear e0
      go_enter Tryz.func80, Tryz.ntmps80
      go_wp2
      refine wp_loop_rounds 2 ?_
      rw [rounds_succ]
      go_wp2
      rw [rounds_succ]
      go_wp2
      go_ret
      exact ⟨rfl, rfl⟩
  · rw [show Q.or3 x y z = x from if_neg hx]
    have hb : (x != 0) = true := by simpa using hx
    clear e0
    go_enter Tryz.func80, Tryz.ntmps80
    go_wp2
    refine wp_loop_rounds 1 ?_
    rw [rounds_succ]
    go_wp2
    go_ret
    exact ⟨rfl, rfl⟩

set_option maxHeartbeats 2000000 in
set_option maxRecDepth 100000 in
theorem cmpItems_any (x y : It) (w : World) :
    Calls Tryz.prog 152 #[.agg #[.int .i64 x.n, .string x.word], .agg #[.int .i64 y.n, .string y.word]] w fun e w' => e = .returned (.int .i64 (Q.cmpIt x y)) ∧ Below w.heap.size w w' := by
  go_enter Tryz.func152, Tryz.ntmps152
  go_wp2
  generalize hW : (w.alloc (Obj.cells #[Value.int IntKind.i64 x.n, Value.string x.word] 181)).alloc (Obj.cells #[Value.int IntKind.i64 y.n, Value.string y.word] 181) = W
  have h0 : Below w.heap.size w W := by subst hW; exact ((Below.refl _ _).alloc (Nat.le_refl _) _).alloc (by simp) _
  have hs : ∀ w', Below W.heap.size W w' → w'.cell? ⟨w.heap.size, 0, none⟩ = some (.int .i64 x.n) ∧ w'.cell? ⟨w.heap.size, 1, none⟩ = some (.string x.word) ∧ w'.cell? ⟨w.heap.size + 1, 0, none⟩ = some (.int .i64 y.n) ∧ w'.cell? ⟨w.heap.size + 1, 1, none⟩ = some (.string y.word) := by
    intro w' hb
    have hz : W.heap.size = w.heap.size + 2 := by subst hW; simp
    refine ⟨(hb.cell (by simp; omega)).trans ?_, (hb.cell (by simp; omega)).trans ?_, (hb.cell (by simp; omega)).trans ?_, (hb.cell (by simp; omega)).trans ?_⟩ <;> (subst hW; simp)
  have HS := Lib.hid hs
  have H0 := Lib.hid h0
  obtain ⟨r0, r1, r2, r3⟩ := hs W (Below.refl _ _)
  clear hs h0 hW
  go_region_held3 (fun w' => w'.cell? ⟨w.heap.size, 0, none⟩ = some (.int .i64 x.n) ∧ w'.cell? ⟨w.heap.size, 1, none⟩ = some (.string x.word) ∧ w'.cell? ⟨w.heap.size + 1, 0, none⟩ = some (.int .i64 y.n) ∧ w'.cell? ⟨w.heap.size + 1, 1, none⟩ = some (.string y.word))
    (first | exact HS.out _ hb | exact HS.out _ hb.drew | exact HS.out _ ((Below.refl _ _).drew) | go_keep)
    (first
    | (go_at_call 166; (first | (with_reducible refine (rel hb (class_any _ _ _)).mono ?_) | (with_reducible refine (rel ((Below.refl W.heap.size W).drew) (class_any _ _ _)).mono ?_)); rintro e w2 ⟨rfl, hb⟩)
    | (go_at_call 82; (with_reducible refine (compare_any _ _ _).mono ?_); rintro e w2 ⟨rfl, rfl⟩)
    | (go_at_call 81; (with_reducible refine (compareS_any _ _ _).mono ?_); rintro e w2 ⟨rfl, rfl⟩)
    | (go_at_call 80; (with_reducible refine (or3_any _ (Q.cmpI (Q.clsL x.word.toList) (Q.clsL y.word.toList)) (Q.cmpS x.word y.word) (Q.cmpI x.n y.n) _ ?_ ?_ ?_).mono ?_); (focus (simp; done)); (focus (simp; done)); (focus (simp; done)); rintro e w2 ⟨rfl, rfl⟩))
  go_wp2
  go_ret
  exact ⟨rfl, fin_alloc H0.out hb _⟩

end Go.Proofs.YtnmcajinaigcjaaGreatDoor

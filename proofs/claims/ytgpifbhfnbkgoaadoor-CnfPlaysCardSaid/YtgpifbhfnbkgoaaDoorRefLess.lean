/- haversackref14: abs, Less. -/
import Derived.Test.YtgpifbhfnbkgoaaDoorOwn
namespace Go.Proofs.YtgpifbhfnbkgoaaDoor
open Go.RowKit

theorem abs_any (l : Int) (w : World) (h : M.isLit l = true) :
    Calls Tryd.prog 137 #[.int .i64 l] w fun e w' => e = .returned (.int .i64 (M.vr l)) ∧ w = w' := by
  have h1 := (M.isLit_iff l).1 h
  have h2 : -20000 ≤ l := h1.2.1
  have h3 : l ≤ 20000 := h1.2.2
  clear h h1
  by_cases hn : l < 0
  · rw [M.vr_of_neg hn]
    go_enter Tryd.func137, Tryd.ntmps137
    go_wp2
    go_ret
    exact ⟨rfl, rfl⟩
  · rw [M.vr_of_pos hn]
    go_enter Tryd.func137, Tryd.ntmps137
    go_wp2
    go_ret
    exact ⟨rfl, rfl⟩
theorem less_any (a b : Int) (w : World) (ha : M.isLit a = true) (hb : M.isLit b = true) :
    Calls Tryd.prog 115 #[.int .i64 a, .int .i64 b] w fun e w' => e = .returned (.bool (M.less a b)) ∧ w = w' := by
  unfold M.less
  by_cases h1 : M.vr a < M.vr b
  · go_enter Tryd.func115, Tryd.ntmps115
    go_wp2_with (go_at_call 137; refine (abs_any _ _ (by assumption)).mono ?_; rintro e w' ⟨rfl, rfl⟩)
    go_ret
    exact ⟨ret_bool (by simp [h1]), rfl⟩
  · have hd : decide (M.vr a < M.vr b) = false := by simpa using h1
    cases h2 : (M.vr a == M.vr b)
    · go_enter Tryd.func115, Tryd.ntmps115
      go_wp2_with (go_at_call 137; refine (abs_any _ _ (by assumption)).mono ?_; rintro e w' ⟨rfl, rfl⟩)
      go_ret
      exact ⟨ret_bool (by simp [hd]), rfl⟩
    · go_enter Tryd.func115, Tryd.ntmps115
      go_wp2_with (go_at_call 137; refine (abs_any _ _ (by assumption)).mono ?_; rintro e w' ⟨rfl, rfl⟩)
      go_ret
      exact ⟨ret_bool (by simp [hd]), rfl⟩
end Go.Proofs.YtgpifbhfnbkgoaaDoor

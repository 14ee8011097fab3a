/- haversacknum.Num. -/
import Derived.Test.YtgpifbhfnbkgoaaDoorErrs
namespace Go.Proofs.YtgpifbhfnbkgoaaDoor
open Go.RowKit Go.Extern.Stop Go.Stop Go.Extern

set_option maxHeartbeats 400000 in
set_option maxRecDepth 100000 in
theorem num_err (A : Nat → Addr) (n : Nat) (w : World) (hn : n < 13) (h : Errs w A) : Calls Tryd.prog 12 #[errAt (A n)] w fun e w' => e = .returned (.int .i64 ((n : Int) + 1)) ∧ Below w.heap.size w w' := by
  have hneq := eqlErr (A n)
  have hneg := eqlErrG (A n)
  unfold errAt at hneq hneg
  have c0 := (h.at' 0 _ rfl).cell
  unfold errAt at c0
  have c1 := (h.at' 1 _ rfl).cell
  unfold errAt at c1
  have c2 := (h.at' 2 _ rfl).cell
  unfold errAt at c2
  have c3 := (h.at' 3 _ rfl).cell
  unfold errAt at c3
  have c4 := (h.at' 4 _ rfl).cell
  unfold errAt at c4
  have c5 := (h.at' 5 _ rfl).cell
  unfold errAt at c5
  have c6 := (h.at' 6 _ rfl).cell
  unfold errAt at c6
  have c7 := (h.at' 7 _ rfl).cell
  unfold errAt at c7
  have c8 := (h.at' 8 _ rfl).cell
  unfold errAt at c8
  have c9 := (h.at' 9 _ rfl).cell
  unfold errAt at c9
  have c10 := (h.at' 10 _ rfl).cell
  unfold errAt at c10
  have c11 := (h.at' 11 _ rfl).cell
  unfold errAt at c11
  have c12 := (h.at' 12 _ rfl).cell
  unfold errAt at c12
  have HE := Lib.hid h
  clear h
  unfold errAt
  go_enter Tryd.func12, Tryd.ntmps12
  go_wp2
  have hcl : ∀ j, j < 13 → (w.alloc (.cells #[.iface 208 (.pointer (some (A 0))), .iface 208 (.pointer (some (A 1))), .iface 208 (.pointer (some (A 2))), .iface 208 (.pointer (some (A 3))), .iface 208 (.pointer (some (A 4))), .iface 208 (.pointer (some (A 5))), .iface 208 (.pointer (some (A 6))), .iface 208 (.pointer (some (A 7))), .iface 208 (.pointer (some (A 8))), .iface 208 (.pointer (some (A 9))), .iface 208 (.pointer (some (A 10))), .iface 208 (.pointer (some (A 11))), .iface 208 (.pointer (some (A 12)))] 36)).cell? ⟨w.heap.size, j, none⟩ = some (.iface 208 (.pointer (some (A j)))) := by
    intro j hj
    refine num_list w _ _ j _ ?_
    match j, hj with
    | 0, _ => rfl | 1, _ => rfl | 2, _ => rfl | 3, _ => rfl | 4, _ => rfl | 5, _ => rfl | 6, _ => rfl | 7, _ => rfl | 8, _ => rfl | 9, _ => rfl | 10, _ => rfl | 11, _ => rfl | 12, _ => rfl
  have HCL := Lib.hid hcl
  have hbW : Below w.heap.size w (w.alloc (.cells #[.iface 208 (.pointer (some (A 0))), .iface 208 (.pointer (some (A 1))), .iface 208 (.pointer (some (A 2))), .iface 208 (.pointer (some (A 3))), .iface 208 (.pointer (some (A 4))), .iface 208 (.pointer (some (A 5))), .iface 208 (.pointer (some (A 6))), .iface 208 (.pointer (some (A 7))), .iface 208 (.pointer (some (A 8))), .iface 208 (.pointer (some (A 9))), .iface 208 (.pointer (some (A 10))), .iface 208 (.pointer (some (A 11))), .iface 208 (.pointer (some (A 12)))] 36)) := below_alloc (Below.refl _ _) _
  have HBW := Lib.hid hbW
  clear c0 c1 c2 c3 c4 c5 c6 c7 c8 c9 c10 c11 c12 hcl hbW
  generalize hgen : w.alloc (.cells #[.iface 208 (.pointer (some (A 0))), .iface 208 (.pointer (some (A 1))), .iface 208 (.pointer (some (A 2))), .iface 208 (.pointer (some (A 3))), .iface 208 (.pointer (some (A 4))), .iface 208 (.pointer (some (A 5))), .iface 208 (.pointer (some (A 6))), .iface 208 (.pointer (some (A 7))), .iface 208 (.pointer (some (A 8))), .iface 208 (.pointer (some (A 9))), .iface 208 (.pointer (some (A 10))), .iface 208 (.pointer (some (A 11))), .iface 208 (.pointer (some (A 12)))] 36) = W at *
  clear hgen
  go_loop [4, 5, 24] (fun _ _ i => ∃ j : Nat, j ≤ n ∧ i = .int .i64 j) (fun _ _ i => 13 - (intOf i).toNat)
  case atStart => exact ⟨0, Nat.zero_le _, rfl⟩
  case round =>
    obtain ⟨j, hj, rfl⟩ := hrel
    have hcell := HCL.out j (by omega)
    have hj13 : (j : Int) < 13 := by omega
    have hE := HE.out.below HBW.out
    by_cases hjn : j = n
    · subst hjn
      have hs := is_same (A j) W
      unfold errAt at hs
      have HS := Lib.hid hs
      clear hE hs
      go_wp2_with (go_at_call 39; refine HS.out.mono ?_; rintro e w' ⟨rfl, rfl⟩)
      go_ret
      exact ⟨rfl, HBW.out⟩
    · have ho : Calls Tryd.prog 39 #[errAt (A n), errAt (A j)] W fun e w' => e = .returned (.bool false) ∧ W = w' := by
        obtain ⟨gn, hgn⟩ : ∃ g, errG[n]? = some g := ⟨_, List.getElem?_eq_getElem (by simpa [errG] using hn)⟩
        obtain ⟨gj, hgj⟩ : ∃ g, errG[j]? = some g := ⟨_, List.getElem?_eq_getElem (by simp [errG]; omega)⟩
        obtain ⟨c1, t1, r1⟩ := (hE.at' n gn hgn).row
        obtain ⟨c2, t2, r2⟩ := (hE.at' j gj hgj).row
        exact is_other (A n) (A j) c1 c2 t1 t2 W (fun e => hjn (hE.apart n j hn (by omega) e).symm) r1 r2
      unfold errAt at ho
      have HS := Lib.hid ho
      clear hE ho
      go_wp2_with (go_at_call 39; refine HS.out.mono ?_; rintro e w' ⟨rfl, rfl⟩)
      go_round
      case rel => exact ⟨j + 1, by omega, by go_num⟩
      case measure => simp [intOf]; omega
end Go.Proofs.YtgpifbhfnbkgoaaDoor

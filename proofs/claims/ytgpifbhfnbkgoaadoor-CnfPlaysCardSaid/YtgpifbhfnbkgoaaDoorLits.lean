/- Contracts of package lits: Right, Vars, sorted, Norm, only, Tautology; of haversackref14: Less, Big. -/
import Derived.Test.YtgpifbhfnbkgoaaDoorRead2
namespace Go.Proofs.YtgpifbhfnbkgoaaDoor
open Go.RowKit

theorem right_any (a : Option Addr) (c : Nat) (zs : List Int) (w : World) (hz : Ints w a zs) :
    Calls Tryd.prog 90 #[.slice a zs.length c] w fun e w' => e = .returned (.bool (M.right zs)) ∧ Below w.heap.size w w' := by
  have hlen := hz.len
  go_enter Tryd.func90, Tryd.ntmps90
  go_wp2
  go_loopw [3, 4, 7] (fun _ _ i wr => ∃ k : Nat, k ≤ zs.length ∧ i = .int .i64 k ∧ M.right (zs.take k) = true ∧ Below w.heap.size w wr) (fun _ _ i _ => zs.length - (intOf i).toNat)
  case atStart => exact ⟨0, Nat.zero_le _, rfl, rfl, Below.refl _ _⟩
  case round =>
    obtain ⟨k, hk, rfl, hf, hb⟩ := hrel
    have HF := Lib.hid hf
    clear hf
    by_cases hlt : k < zs.length
    · have hzr := hz.below hb
      obtain ⟨b, off, rfl, hbl, hc⟩ := hzr.addr (by omega)
      obtain ⟨z, hzk⟩ : ∃ z, zs[k]? = some z := ⟨zs[k], by simp [hlt]⟩
      have hcell := hc k z hzk
      have HZ := Lib.hid hzk
      clear hzk
      cases hl : M.isLit z
      · clear hc
        go_wp2_with (go_at_call 68; refine (literal_any _ _).mono ?_; rintro e w' ⟨rfl, rfl⟩)
        go_ret
        refine ⟨ret_bool ?_, hb⟩
        symm
        apply M.right_miss (k := k + 1)
        by_cases hk0 : 0 < k
        · obtain ⟨y, hy⟩ : ∃ y, zs[k - 1]? = some y := ⟨zs[k - 1], List.getElem?_eq_getElem (by omega)⟩
          rw [M.right_step hk0 hy HZ.out HF.out, hl]; rfl
        · rw [M.right_zero hk0 HZ.out]; exact hl
      · by_cases hk0 : 0 < k
        · obtain ⟨y, hy⟩ : ∃ y, zs[k - 1]? = some y := ⟨zs[k - 1], List.getElem?_eq_getElem (by omega)⟩
          have hcell2 := hc (k - 1) y hy
          have HY := Lib.hid hy
          have hly : M.isLit y = true := ((M.right_iff _).1 HF.out).1 y (List.mem_of_getElem? (i := k - 1) (by rw [List.getElem?_take, if_pos (by omega)]; exact hy))
          clear hc hy
          cases hls : M.less y z
          · have hcm : decide (0 ≤ M.cmp y z) = true := by simp [M.cmp_neg, hls]
            go_wp2_with (first | (go_at_call 68; refine (literal_any _ _).mono ?_; rintro e w' ⟨rfl, rfl⟩) | (go_at_call 88; refine (order_any _ _ _ hly hl).mono ?_; rintro e w' ⟨rfl, o, rfl⟩))
            go_ret
            refine ⟨ret_bool ?_, hb.alloc hb.size _⟩
            symm
            apply M.right_miss (k := k + 1)
            rw [M.right_step hk0 HY.out HZ.out HF.out, hls, Bool.and_false]
          · have hcm : decide (0 ≤ M.cmp y z) = false := by simp [M.cmp_neg, hls]
            go_wp2_with (first | (go_at_call 68; refine (literal_any _ _).mono ?_; rintro e w' ⟨rfl, rfl⟩) | (go_at_call 88; refine (order_any _ _ _ hly hl).mono ?_; rintro e w' ⟨rfl, o, rfl⟩))
            go_roundw
            case rel => exact ⟨k + 1, by omega, by go_num, by rw [M.right_step hk0 HY.out HZ.out HF.out, hls, hl]; rfl, hb.alloc hb.size _⟩
            case measure => simp [intOf]; omega
        · clear hc
          go_wp2_with (go_at_call 68; refine (literal_any _ _).mono ?_; rintro e w' ⟨rfl, rfl⟩)
          go_roundw
          case rel => exact ⟨k + 1, by omega, by go_num, by rw [M.right_zero hk0 HZ.out]; exact hl, hb⟩
          case measure => simp [intOf]; omega
    · go_wp2
      go_ret
      refine ⟨ret_bool ?_, hb⟩
      have := HF.out
      rw [List.take_of_length_le (by omega)] at this
      exact this.symm
end Go.Proofs.YtgpifbhfnbkgoaaDoor

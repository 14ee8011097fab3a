/- sums.literals. -/
import Derived.Test.YtllkeojkejbbeaaDoorClauses
import Derived.Test.YtllkeojkejbbeaaDoorSBound
import Derived.IntWalk
namespace Go.Proofs.YtllkeojkejbbeaaDoor
open Go.RowKit

set_option maxHeartbeats 1000000 in
theorem literals_any (p vars : Nat) (b : Option Addr) (d : Nat) (zs : List Int) (w : World) (h0 : w.cell? ⟨p, 0, none⟩ = some (.int .i64 vars)) (hv : vars ≤ 20000) (hz : Ints w b zs) :
    Calls Tryd.prog 60 #[.pointer (some ⟨p, 0, none⟩), .slice b zs.length d] w fun e w' => e = .returned (.bool (M.own vars zs)) ∧ w = w' := by
  have hlen := hz.len
  have HV := Lib.hid (vars_any p vars w h0)
  have hw : IntKind.i64.wrap (-(vars : Int)) = -(vars : Int) := by rw [IntKind.wrap_i64]; omega
  have hw2 : wrap64 (-(vars : Int)) = -(vars : Int) := IntWalk.wrap64_in _ ⟨by omega, by omega⟩
  go_enter Tryd.func60, Tryd.ntmps60
  go_wp2
  go_loop [6, 9] (fun _ i => ∃ k : Nat, k ≤ zs.length ∧ i = .int .i64 k ∧ M.own vars (zs.take k) = true) (fun _ i => zs.length - (intOf i).toNat)
  case atStart => exact ⟨0, Nat.zero_le _, rfl, rfl⟩
  case round =>
    obtain ⟨k, hk, rfl, hf⟩ := hrel
    by_cases hlt : k < zs.length
    · obtain ⟨bb, off, rfl, hbl, hc⟩ := hz.addr (by omega)
      obtain ⟨z, hzk⟩ : ∃ z, zs[k]? = some z := ⟨zs[k], by simp [hlt]⟩
      have hcell := hc k z hzk
      obtain ⟨hz1, hz2⟩ := hz.wf z (List.mem_of_getElem? hzk)
      have HZ := Lib.hid hzk
      have HF := Lib.hid hf
      clear hc hzk hf
      by_cases e0 : z = 0
      · have hm := M.own_miss (vars := vars) HZ.out (.inl e0)
        subst e0
        go_wp2_with (go_at_call 26; refine HV.out.mono ?_; rintro e w' ⟨rfl, rfl⟩)
        go_ret
        exact ⟨by first | rfl | (rw [hm]; rfl), rfl⟩
      · have hb0 : (z == 0) = false := by simpa using e0
        by_cases e1 : z < -(vars : Int)
        · have hm := M.own_miss (vars := vars) HZ.out (.inr (.inl e1))
          go_wp2_with (go_at_call 26; refine HV.out.mono ?_; rintro e w' ⟨rfl, rfl⟩)
          go_ret
          exact ⟨by first | rfl | (rw [hm]; rfl), rfl⟩
        · by_cases e2 : (vars : Int) < z
          · have hm := M.own_miss (vars := vars) HZ.out (.inr (.inr e2))
            go_wp2_with (go_at_call 26; refine HV.out.mono ?_; rintro e w' ⟨rfl, rfl⟩)
            go_ret
            exact ⟨by first | rfl | (rw [hm]; rfl), rfl⟩
          · go_wp2_with (go_at_call 26; refine HV.out.mono ?_; rintro e w' ⟨rfl, rfl⟩)
            go_round
            case rel => exact ⟨k + 1, by omega, by go_num, M.own_step HZ.out HF.out ⟨e0, by omega, by omega⟩⟩
            case measure => simp [intOf]; omega
    · obtain rfl : k = zs.length := by omega
      rw [List.take_length] at hf
      go_wp2
      go_ret
      exact ⟨by first | rfl | (rw [hf]; rfl), rfl⟩
end Go.Proofs.YtllkeojkejbbeaaDoor

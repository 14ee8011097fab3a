/- haversacklaw14.few; small clauses in new memory. -/
import Derived.Test.YtdppmmimemmedaaDoorAlive14
namespace Go.Proofs.YtdppmmimemmedaaDoor
open Go.RowKit

theorem M.big_false2 {cs : List (List Int)} {many long : Nat} (h : M.big cs many long = false) : cs.length ≤ many ∧ ∀ x ∈ cs, x.length ≤ long := by
  simp only [M.big, Bool.or_eq_false_iff, decide_eq_false_iff_not, List.any_eq_false, decide_eq_true_eq] at h
  exact ⟨by omega, fun x hx => by have := h.2 x hx; omega⟩
/-- what few answers -/
def FewPost (w : World) (cs : List (List Int)) (e : Ending) (w' : World) : Prop := ∃ b : Bool, e = .returned (.bool b) ∧ (b = true → cs.length ≤ 30 ∧ ∀ x ∈ cs, x.length ≤ 10) ∧ w = w'
set_option maxHeartbeats 1000000 in
theorem few_any (a : Option Addr) (c : Nat) (cs : List (List Int)) (w : World) (hz : Cls w a cs) :
    Calls Tryd.prog 41 #[.slice a cs.length c] w (FewPost w cs) := by
  have hlen := hz.len
  have HBIG := Lib.hid (rbig_any a c cs 30 10 w hz (by omega) (by omega))
  have HC := Lib.hid hz
  clear hz
  cases hbg : M.big cs 30 10
  · have HCS := Lib.hid (M.big_false2 hbg)
    go_enter Tryd.func41, Tryd.ntmps41
    go_wp2_with (go_at_call 27; refine HBIG.out.mono ?_; rintro e w' ⟨rfl, rfl⟩)
    go_loop [11] (fun i => ∃ k : Nat, k ≤ cs.length ∧ i = .int .i64 k) (fun i => cs.length - (intOf i).toNat)
    case atStart => exact ⟨0, Nat.zero_le _, rfl⟩
    case round =>
      obtain ⟨k, hk, rfl⟩ := hrel
      by_cases hlt : k < cs.length
      · obtain ⟨bb, off, rfl, hbl, hc⟩ := HC.out.addr (by omega)
        obtain ⟨x, hxk⟩ : ∃ x, cs[k]? = some x := ⟨cs[k], by simp [hlt]⟩
        obtain ⟨a', c', hcell, hin⟩ := hc k x hxk
        have hxl := hin.len
        have HIN := Lib.hid hin
        clear hc hxk hin
        go_wp2
        go_loop [17] (fun i => ∃ t : Nat, t ≤ x.length ∧ i = .int .i64 t) (fun i => x.length - (intOf i).toNat)
        case atStart => exact ⟨0, Nat.zero_le _, rfl⟩
        case round =>
          obtain ⟨t, ht, rfl⟩ := hrel
          by_cases htl : t < x.length
          · obtain ⟨b2, off2, rfl, hbl2, hc2⟩ := HIN.out.addr (by omega)
            obtain ⟨z, hzt⟩ : ∃ z, x[t]? = some z := ⟨x[t], by simp [htl]⟩
            have hcell2 := hc2 t z hzt
            clear hc2 hzt
            by_cases z0 : z = 0
            · subst z0
              go_wp2
              go_ret
              exact ⟨false, rfl, (fun h => by cases h), rfl⟩
            by_cases z1 : z < -8
            · have t0 : decide (z = 0) = false := by simpa using z0
              go_wp2
              go_ret
              exact ⟨false, rfl, (fun h => by cases h), rfl⟩
            by_cases z2 : 8 < z
            · have t0 : decide (z = 0) = false := by simpa using z0
              go_wp2
              go_ret
              exact ⟨false, rfl, (fun h => by cases h), rfl⟩
            have t0 : decide (z = 0) = false := by simpa using z0
            go_wp2
            go_round
            case rel => exact ⟨t + 1, by omega, by go_num⟩
            case measure => simp [intOf]; omega
          · go_wp2
            go_round
            case rel => exact ⟨k + 1, by omega, by go_num⟩
            case measure => simp [intOf]; omega
      · go_wp2
        go_ret
        exact ⟨true, rfl, fun _ => HCS.out, rfl⟩
  · go_enter Tryd.func41, Tryd.ntmps41
    go_wp2_with (go_at_call 27; refine HBIG.out.mono ?_; rintro e w' ⟨rfl, rfl⟩)
    go_ret
    exact ⟨false, rfl, (fun h => by cases h), rfl⟩
theorem Cls.one {w : World} {b : Option Addr} {zs : List Int} (h : Ints w b zs) (d : Nat) (t : TypeId) : Cls (w.alloc (.cells #[.slice b zs.length d] t)) (some ⟨w.heap.size, 0, none⟩) [zs] := by
  refine ⟨fun _ => ⟨_, 0, rfl, by simp, fun i c hc => ?_⟩, by simp⟩
  match i, hc with
  | 0, hc => simp at hc; subst hc; exact ⟨_, d, cell_alloc_new _ _ _ rfl rfl, h.alloc _⟩
theorem Cls.two {w : World} {b b' : Option Addr} {zs zs' : List Int} (h : Ints w b zs) (h' : Ints w b' zs') (d d' : Nat) (t : TypeId) : Cls (w.alloc (.cells #[.slice b zs.length d, .slice b' zs'.length d'] t)) (some ⟨w.heap.size, 0, none⟩) [zs, zs'] := by
  refine ⟨fun _ => ⟨_, 0, rfl, by simp, fun i c hc => ?_⟩, by simp⟩
  match i, hc with
  | 0, hc => simp at hc; subst hc; exact ⟨_, d, cell_alloc_new _ _ _ rfl rfl, h.alloc _⟩
  | 1, hc => simp at hc; subst hc; exact ⟨_, d', cell_alloc_new _ _ _ rfl rfl, h'.alloc _⟩
theorem M.tru_one (z : Int) (m : List Bool) : M.tru [z] m = M.holds z m := by simp [M.tru]
end Go.Proofs.YtdppmmimemmedaaDoor

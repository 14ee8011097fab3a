/- haversackref14: Norm, Right, Big; lits.Vars. -/
import Derived.Test.YtgpifbhfnbkgoaaDoorRefPut
import Derived.Test.YtgpifbhfnbkgoaaDoorNorm
namespace Go.Proofs.YtgpifbhfnbkgoaaDoor
open Go.RowKit

/-- the document's Norm -/
def M.rnorm (zs : List Int) : List Int := if zs.all M.isLit then M.norm zs else []
theorem M.norm_snoc {zs : List Int} {k : Nat} {z : Int} (h : zs[k]? = some z) : M.norm (zs.take (k + 1)) = M.put (M.norm (zs.take k)) z := by
  rw [List.take_add_one, h]; simp [M.norm, List.foldl_append]
def RNorm (w : World) (ys : List Int) (ok : Bool) (e : Ending) (w' : World) : Prop :=
  ∃ a' c', e = .returned (.tuple #[.slice a' ys.length c', .bool ok]) ∧ Ints w' a' ys ∧ ys.length ≤ c' ∧ (a' = none → c' = 0) ∧ Below w.heap.size w w'
set_option maxHeartbeats 1000000 in
theorem rnorm_any (a : Option Addr) (c : Nat) (zs : List Int) (w : World) (hz : Ints w a zs) (hs : zs.length ≤ 1000000) :
    Calls Tryd.prog 71 #[.slice a zs.length c] w (RNorm w (M.rnorm zs) (zs.all M.isLit)) := by
  have HZ := Lib.hid hz
  clear hz
  go_enter Tryd.func71, Tryd.ntmps71
  go_wp2
  go_loopw [4, 6, 10] (fun v _ i wr => ∃ (k : Nat) (a' : Option Addr) (c' : Nat), k ≤ zs.length ∧ i = .int .i64 k ∧ v = .slice a' (M.norm (zs.take k)).length c' ∧ (∀ z ∈ zs.take k, M.isLit z = true) ∧ Ints wr a' (M.norm (zs.take k)) ∧ (M.norm (zs.take k)).length ≤ c' ∧ (a' = none → c' = 0) ∧ Below w.heap.size w wr) (fun _ _ i _ => zs.length - (intOf i).toNat)
  case atStart => exact ⟨0, _, 0, Nat.zero_le _, rfl, rfl, (fun z hz => by simp at hz), Ints.nil _ _, Nat.le_refl _, (fun h => by cases h), (Below.refl _ _).alloc (Nat.le_refl _) _⟩
  case round =>
    obtain ⟨k, a', c', hk, rfl, rfl, hlit, hI, hcap, hnone, hb⟩ := hrel
    have HLIT := Lib.hid hlit
    have HI := Lib.hid hI
    have HCN := Lib.hid (And.intro hcap hnone)
    have HB := Lib.hid hb
    clear hlit hI hcap hnone hb
    by_cases hlt : k < zs.length
    · obtain ⟨bb, off, rfl, hbl, hc⟩ := (HZ.out.below HB.out).addr (by omega)
      obtain ⟨z, hzk⟩ : ∃ z, zs[k]? = some z := ⟨zs[k], by simp [hlt]⟩
      have hcell := hc k z hzk
      have HZK := Lib.hid hzk
      clear hc hzk
      cases hl : M.isLit z
      · go_wp2_with (go_at_call 91; refine (is_any _ _).mono ?_; rintro e w' ⟨rfl, rfl⟩)
        go_ret2
        have hall : zs.all M.isLit = false := by
          cases hh : zs.all M.isLit
          · rfl
          · have := List.all_eq_true.1 hh z (List.mem_of_getElem? HZK.out); rw [hl] at this; cases this
        rw [M.rnorm, hall]
        exact ⟨none, 0, rfl, Ints.nil _ _, Nat.le_refl _, fun _ => rfl, HB.out⟩
      · have hln := M.norm_length (zs.take k)
        have hlt2 := List.length_take_le k zs
        have hp := put_any a' c' (M.norm (zs.take k)) z wr HI.out HCN.out.1 HCN.out.2 (fun y hy => HLIT.out y ((M.mem_norm _ y).1 hy)) hl (by omega)
        rw [← M.norm_snoc HZK.out] at hp
        have HP := Lib.hid hp
        clear hp hln hlt2
        go_wp2_with (first | (go_at_call 91; refine (is_any _ _).mono ?_; rintro e w' ⟨rfl, rfl⟩) | (go_at_call 92; refine HP.out.mono ?_; rintro e w2 ⟨a2, c2, rfl, i1, i2, i3, i4⟩; have HI2 := Lib.hid i1; have HC2 := Lib.hid (And.intro i2 i3); have HB2 := Lib.hid (HB.out.trans (i4.mono HB.out.size)); clear i1 i2 i3 i4))
        go_roundw
        case rel =>
          refine ⟨k + 1, a2, c2, by omega, by go_num, rfl, fun y hy => ?_, HI2.out, HC2.out.1, HC2.out.2, HB2.out⟩
          rw [List.take_add_one, HZK.out] at hy
          rcases List.mem_append.1 hy with hy | hy
          · exact HLIT.out y hy
          · simp at hy; subst hy; exact hl
        case measure => simp [intOf]; omega
    · go_wp2
      go_ret2
      obtain rfl : k = zs.length := by omega
      have hI := HI.out
      have hlit := HLIT.out
      have hcn := HCN.out
      rw [List.take_of_length_le (Nat.le_refl _)] at hI hlit hcn
      have hall : zs.all M.isLit = true := List.all_eq_true.2 hlit
      rw [List.take_of_length_le (Nat.le_refl _), M.rnorm, hall, if_pos rfl]
      exact ⟨a', c', rfl, hI, hcn.1, hcn.2, HB.out⟩
theorem M.right_eq (zs : List Int) : M.right zs = (zs.all M.isLit && M.eqs (M.rnorm zs) zs) := by
  rw [Bool.eq_iff_iff, M.right_iff, Bool.and_eq_true, M.eqs_iff, List.all_eq_true]
  refine and_congr_right fun h => ?_
  rw [M.rnorm, if_pos (List.all_eq_true.2 h)]
def M.big (cs : List (List Int)) (many long : Int) : Bool := decide (many < cs.length) || cs.any fun c => decide (long < c.length)
end Go.Proofs.YtgpifbhfnbkgoaaDoor

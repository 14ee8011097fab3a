/- haversackref14: Put, Norm, Right. -/
import Derived.Test.YtgpifbhfnbkgoaaDoorRefLess
namespace Go.Proofs.YtgpifbhfnbkgoaaDoor
open Go.RowKit

theorem put_done {w w3 : World} {zs : List Int} {x : Int} {k : Nat} {a3 : Option Addr} {c3 : Nat} (hsp : M.put zs x = zs.take k ++ x :: zs.drop k) (hk : k ≤ zs.length) (ho : OwnI w3 w.heap.size a3 c3 (zs.take k ++ [x] ++ zs.drop k)) (hb : Below w.heap.size w w3)
    (hzl : ∀ z ∈ zs, M.isLit z = true) (hx : M.isLit x = true) (hsm : zs.length ≤ 1000000) : NewInts w (M.put zs x) (.returned (.slice a3 (k + 1 + (zs.length - k)) c3)) w3 := by
  have e : zs.take k ++ [x] ++ zs.drop k = M.put zs x := by rw [hsp]; simp
  rw [e] at ho
  have hl : (M.put zs x).length = k + 1 + (zs.length - k) := by rw [hsp]; simp; omega
  refine ⟨a3, c3, by rw [hl], ho.ints ?_ (by rw [hl]; omega), ho.cap.1, ho.cap.2, hb⟩
  intro z hz
  rcases (M.mem_put zs x z).1 hz with rfl | hz
  · exact I64.of_lit hx
  · exact I64.of_lit (hzl z hz)
theorem put_any (a : Option Addr) (c : Nat) (zs : List Int) (x : Int) (w : World) (hz : Ints w a zs) (hc : zs.length ≤ c) (hd : a = none → c = 0) (hzl : ∀ z ∈ zs, M.isLit z = true) (hx : M.isLit x = true) (hsm : zs.length ≤ 1000000) :
    Calls Tryd.prog 92 #[.slice a zs.length c, .int .i64 x] w (NewInts w (M.put zs x)) := by
  have hlen := hz.len
  have hzw := hzl
  have HZW := Lib.hid hzw
  clear hzw
  go_enter Tryd.func92, Tryd.ntmps92
  go_wp2
  go_loop [5] (fun i => ∃ k : Nat, k ≤ zs.length ∧ i = .int .i64 k ∧ ∀ i y, i < k → zs[i]? = some y → M.less y x = true) (fun i => zs.length - (intOf i).toNat)
  case atStart => exact ⟨0, Nat.zero_le _, rfl, fun i y hi => absurd hi (by omega)⟩
  case round =>
    obtain ⟨k, hk, rfl, hf⟩ := hrel
    have HF := Lib.hid hf
    clear hf
    by_cases hlt : k < zs.length
    · obtain ⟨b, off, rfl, hbl, hcl⟩ := hz.addr (by omega)
      obtain ⟨z, hzk⟩ : ∃ z, zs[k]? = some z := ⟨zs[k], by simp [hlt]⟩
      have hcell := hcl k z hzk
      have hlz := hzl z (List.mem_of_getElem? hzk)
      have HZ := Lib.hid hzk
      clear hcl hzk
      cases hls : M.less z x
      · cases hzx : (z == x)
        · -- a new list
          have hsp : M.put zs x = zs.take k ++ x :: zs.drop k := by
            rw [M.put_split zs k x HF.out (fun y hy => by rw [HZ.out] at hy; cases hy; exact hls) (by omega), if_neg]
            rw [HZ.out]; intro e; cases e; simp at hzx
          have HSP := Lib.hid hsp
          clear hsp hzl
          have HND := Lib.hid hd
          obtain ⟨hsl, hto⟩ := slice_to 30 Tryd.underlying30 c k hz (by omega) hc hd
          obtain ⟨a', hsf, hfr, hnn⟩ := slice_from 30 Tryd.underlying30 c k hz (by omega) hc hd
          clear hd
          have HTO := Lib.hid hto
          have HFR := Lib.hid hfr
          have HNN := Lib.hid hnn
          clear hto hfr hnn
          go_wp2_with (first
            | (go_at_call 115; refine (less_any _ _ _ hlz hx).mono ?_; rintro e w' ⟨rfl, rfl⟩)
            | (at_builtin; refine wpList_append_Ints rfl (.tmp 34) (.tmp 37) 30 rfl Tryd.underlying30 w.heap.size _ _ _ [] rfl rfl (OwnI.made0 w _ (Nat.le_refl _)) _ _ _ (zs.take k) rfl (by simp; omega) (HTO.out.alloc _) HND.out (by omega) (by simp) ?_; intro a1 c1 w1 hown1 hg1 hB1; have HB1 := Lib.hid (put_below1 hB1); have HO1 := Lib.hid hown1; clear hg1 hown1 hB1)
            | (at_builtin; refine wpList_append_Ints rfl (.tmp 39) (.tmp 41) 30 rfl Tryd.underlying30 w.heap.size _ _ _ (zs.take k) rfl (by simp; omega) (OwnI.alloc HO1.out _) _ _ _ [x] rfl rfl (Ints.one w1 x (I64.of_lit hx) _) (fun h => by cases h) (by omega) (put_size1 HB1.out) ?_; intro a2 c2 w2 hown2 hg2 hB2; have HB2 := Lib.hid (put_below2 HB1.out hB2); have HO2 := Lib.hid hown2; clear hg2 hown2 hB2 HO1)
            | (at_builtin; refine wpList_append_Ints rfl (.tmp 43) (.tmp 46) 30 rfl Tryd.underlying30 w.heap.size _ _ _ (zs.take k ++ [x]) rfl (by simp; omega) HO2.out _ _ _ (zs.drop k) rfl (by simp) (HFR.out.below HB2.out) HNN.out (by omega) HB2.out.size ?_; intro a3 c3 w3 hown3 hg3 hB3; have HB3 := Lib.hid (HB2.out.trans hB3); have HO3 := Lib.hid hown3; clear hg3 hown3 hB3 HO2))
          go_ret
          exact put_done HSP.out hk HO3.out HB3.out HZW.out hx hsm
        · have hsp : M.put zs x = zs := by
            rw [M.put_split zs k x HF.out (fun y hy => by rw [HZ.out] at hy; cases hy; exact hls) (by omega), if_pos]
            rw [HZ.out]; simp at hzx; rw [hzx]
          have HSP := Lib.hid hsp
          clear hsp hzl
          go_wp2_with (go_at_call 115; refine (less_any _ _ _ hlz hx).mono ?_; rintro e w' ⟨rfl, rfl⟩)
          go_ret
          rw [HSP.out]
          exact ⟨_, _, rfl, hz, hc, hd, Below.refl _ _⟩
      · go_wp2_with (go_at_call 115; refine (less_any _ _ _ hlz hx).mono ?_; rintro e w' ⟨rfl, rfl⟩)
        go_round
        case rel =>
          refine ⟨k + 1, by omega, by go_num, fun i y hi hy => ?_⟩
          by_cases hik : i = k
          · subst hik; rw [HZ.out] at hy; cases hy; exact hls
          · exact HF.out i y (by omega) hy
        case measure => simp [intOf]; omega
    · have hend : zs[k]? = none := List.getElem?_eq_none (by omega)
      have hsp : M.put zs x = zs.take k ++ x :: zs.drop k := by
        rw [M.put_split zs k x HF.out (fun y hy => by rw [hend] at hy; cases hy) (by omega), if_neg]
        rw [hend]; simp
      have HSP := Lib.hid hsp
      clear hsp hzl hend
      have HND := Lib.hid hd
      obtain ⟨hsl, hto⟩ := slice_to 30 Tryd.underlying30 c k hz (by omega) hc hd
      obtain ⟨a', hsf, hfr, hnn⟩ := slice_from 30 Tryd.underlying30 c k hz (by omega) hc hd
      clear hd
      have HTO := Lib.hid hto
      have HFR := Lib.hid hfr
      have HNN := Lib.hid hnn
      clear hto hfr hnn
      go_wp2_with (first
        | (at_builtin; refine wpList_append_Ints rfl (.tmp 34) (.tmp 37) 30 rfl Tryd.underlying30 w.heap.size _ _ _ [] rfl rfl (OwnI.made0 w _ (Nat.le_refl _)) _ _ _ (zs.take k) rfl (by simp; omega) (HTO.out.alloc _) HND.out (by omega) (by simp) ?_; intro a1 c1 w1 hown1 hg1 hB1; have HB1 := Lib.hid (put_below1 hB1); have HO1 := Lib.hid hown1; clear hg1 hown1 hB1)
        | (at_builtin; refine wpList_append_Ints rfl (.tmp 39) (.tmp 41) 30 rfl Tryd.underlying30 w.heap.size _ _ _ (zs.take k) rfl (by simp; omega) (OwnI.alloc HO1.out _) _ _ _ [x] rfl rfl (Ints.one w1 x (I64.of_lit hx) _) (fun h => by cases h) (by omega) (put_size1 HB1.out) ?_; intro a2 c2 w2 hown2 hg2 hB2; have HB2 := Lib.hid (put_below2 HB1.out hB2); have HO2 := Lib.hid hown2; clear hg2 hown2 hB2 HO1)
        | (at_builtin; refine wpList_append_Ints rfl (.tmp 43) (.tmp 46) 30 rfl Tryd.underlying30 w.heap.size _ _ _ (zs.take k ++ [x]) rfl (by simp; omega) HO2.out _ _ _ (zs.drop k) rfl (by simp) (HFR.out.below HB2.out) HNN.out (by omega) HB2.out.size ?_; intro a3 c3 w3 hown3 hg3 hB3; have HB3 := Lib.hid (HB2.out.trans hB3); have HO3 := Lib.hid hown3; clear hg3 hown3 hB3 HO2))
      go_ret
      exact put_done HSP.out hk HO3.out HB3.out HZW.out hx hsm
end Go.Proofs.YtgpifbhfnbkgoaaDoor

/- haversacklaw15.taken, few; haversackref15.Says. -/
import Derived.Test.YtgpifbhfnbkgoaaDoorOwnAt
import Derived.Test.YtgpifbhfnbkgoaaDoorCnfMath
import Derived.Test.YtgpifbhfnbkgoaaDoorNorm
namespace Go.Proofs.YtgpifbhfnbkgoaaDoor
open Go.RowKit

def M.taken (zs : List Int) (n : Nat) : List Int := (zs ++ List.replicate (n - zs.length) 1).take n
theorem M.taken_length (zs : List Int) (n : Nat) : (M.taken zs n).length = n := by simp [M.taken]; omega
def M.few (k : Int) (zs : List Int) : List Int := if k = 3 then M.taken zs 2 else if k = 4 then M.taken zs 3 else zs
def lenV : Value → Nat
  | .slice _ n _ => n
  | _ => 0
theorem below_chain {w w1 w2 : World} {o : Obj} (h : Below w.heap.size w w1) (h2 : Below w.heap.size (w1.alloc o) w2) : Below w.heap.size w w2 := (h.alloc h.size o).trans h2
set_option maxHeartbeats 1000000 in
theorem taken_any (a : Option Addr) (c : Nat) (zs : List Int) (n : Nat) (w : World) (hz : Ints w a zs) (hd : a = none → c = 0) (hn : n ≤ 3) (hs : zs.length ≤ 1000000) :
    Calls Tryd.prog 33 #[.slice a zs.length c, .int .i64 n] w (NewIntsT w (M.taken zs n)) := by
  have HD := Lib.hid hd
  have HZ := Lib.hid hz
  clear hd hz
  go_enter Tryd.func33, Tryd.ntmps33
  go_wp2_with (at_builtin; refine wpList_append_Ints rfl (.tmp 6) (.tmp 7) 30 rfl Tryd.underlying30 w.heap.size _ _ _ [] rfl rfl (OwnI.made0 w _ (Nat.le_refl _)) _ _ _ zs rfl rfl (HZ.out.alloc _) HD.out (by omega) (by simp) ?_; intro a1 c1 w1 hown1 hg1 hB1; have HB1 := Lib.hid (put_below1 hB1); have HO1 := Lib.hid hown1; clear hg1 hown1 hB1)
  go_loopw [5] (fun v wr => ∃ (k : Nat) (a' : Option Addr) (c' : Nat), (k = 0 ∨ zs.length + k ≤ n) ∧ v = .slice a' (zs.length + k) c' ∧ OwnI wr w.heap.size a' c' (zs ++ List.replicate k 1) ∧ Below w.heap.size w wr) (fun v _ => n - lenV v)
  case atStart => exact ⟨0, a1, c1, .inl rfl, by simp, by simpa using HO1.out, HB1.out⟩
  case round =>
    obtain ⟨k, a', c', hk, rfl, ho, hb⟩ := hrel
    have HO := Lib.hid ho
    have HB := Lib.hid hb
    have hk3 : k ≤ 3 := by omega
    clear ho hb
    by_cases hlt : zs.length + k < n
    · go_wp2_with (at_builtin; refine wpList_append_Ints rfl (.tmp 13) (.tmp 14) 30 rfl Tryd.underlying30 w.heap.size _ _ _ (zs ++ List.replicate k 1) rfl (by simp) (OwnI.alloc HO.out _) _ _ _ [1] rfl rfl (Ints.one wr 1 ⟨by omega, by omega⟩ _) (fun h => by cases h) (by omega) (put_size1 HB.out) ?_; intro a2 c2 w2 hown2 hg2 hB2; have HB2 := Lib.hid (below_chain HB.out hB2); have HO2 := Lib.hid hown2; clear hg2 hown2 hB2)
      go_roundw
      case rel => exact ⟨k + 1, a2, c2, .inr (by omega), by rw [Nat.add_assoc], by rw [List.replicate_succ', ← List.append_assoc]; exact HO2.out, HB2.out⟩
      case measure => simp [lenV]; omega
    · have hz1 : ∀ z ∈ zs ++ List.replicate k 1, I64 z := by
        intro z hz
        rcases List.mem_append.1 hz with h | h
        · exact HZ.out.wf z h
        · rw [List.mem_replicate] at h; rw [h.2]; exact ⟨by omega, by omega⟩
      have hI := HO.out.ints hz1 (by simp; omega)
      have hcap := HO.out.cap
      have hsl := slice_to (w := wr) 30 Tryd.underlying30 (a := a') (zs := zs ++ List.replicate k 1) c' n hI (by simp; omega) hcap.1 hcap.2
      rw [List.length_append, List.length_replicate] at hsl
      have hrun := hsl.1
      have HI2 := Lib.hid hsl.2
      have HCAP := Lib.hid hcap
      clear hz1 hI hsl hcap
      go_wp2
      go_ret
      have e : (zs ++ List.replicate k (1 : Int)).take n = M.taken zs n := by
        unfold M.taken
        rcases hk with rfl | hk
        · by_cases hle : n ≤ zs.length
          · rw [show n - zs.length = 0 by omega]
          · omega
        · rw [show n - zs.length = k by omega]
      have hI2 := HI2.out
      rw [e] at hI2
      refine ⟨a', c', (by rw [M.taken_length]; rfl), hI2, ?_, HCAP.out.2, HB.out, HO.out.tagN⟩
      have := HCAP.out.1
      rw [M.taken_length]; simp at this; omega
/-- what few hands back: a new list, or the one that the operation holds -/
def FewPost (w : World) (a : Option Addr) (zs ys : List Int) (e : Ending) (w' : World) : Prop :=
  ∃ a' c', e = .returned (.slice a' ys.length c') ∧ Ints w' a' ys ∧ ys.length ≤ c' ∧ (a' = none → c' = 0) ∧ Below w.heap.size w w' ∧ ((a' = a ∧ ys = zs) ∨ TagN w.heap.size w' a')
set_option maxHeartbeats 1000000 in
theorem few_any (k n : Int) (a : Option Addr) (c : Nat) (zs : List Int) (w : World) (hz : Ints w a zs) (hc : zs.length ≤ c) (hd : a = none → c = 0) (hs : zs.length ≤ 1000000) :
    Calls Tryd.prog 9 #[.agg #[.int .i64 k, .int .i64 n, .slice a zs.length c]] w (FewPost w a zs (M.few k zs)) := by
  have HD := Lib.hid hd
  have HZ := Lib.hid hz
  clear hd hz
  have hbW : Below w.heap.size w (w.alloc (.cells #[.int .i64 k, .int .i64 n, .slice a zs.length c] 32)) := (Below.refl _ _).alloc (Nat.le_refl _) _
  have HBW := Lib.hid hbW
  clear hbW
  by_cases h3 : k = 3
  · subst h3
    have ht := taken_any a c zs 2 (w.alloc (.cells #[.int .i64 3, .int .i64 n, .slice a zs.length c] 32)) (HZ.out.below HBW.out) HD.out (by omega) hs
    have HT := Lib.hid ht
    clear ht
    go_enter Tryd.func9, Tryd.ntmps9
    go_wp2_with fail
    refine HT.out.mono ?_
    rintro e w1 ⟨a1, c1, rfl, i1, i2, i3, i4, i5⟩
    go_wp2
    go_ret
    exact ⟨a1, c1, rfl, i1, i2, i3, HBW.out.trans (i4.mono (by simp)), .inr ⟨fun ad e => by have := i5.new ad e; simp at this; omega, i5.tag⟩⟩
  · have hb3 : (k == 3) = false := by simpa using h3
    by_cases h4 : k = 4
    · subst h4
      have ht := taken_any a c zs 3 (w.alloc (.cells #[.int .i64 4, .int .i64 n, .slice a zs.length c] 32)) (HZ.out.below HBW.out) HD.out (by omega) hs
      have HT := Lib.hid ht
      clear ht
      go_enter Tryd.func9, Tryd.ntmps9
      go_wp2_with fail
      refine HT.out.mono ?_
      rintro e w1 ⟨a1, c1, rfl, i1, i2, i3, i4, i5⟩
      go_wp2
      go_ret
      exact ⟨a1, c1, rfl, i1, i2, i3, HBW.out.trans (i4.mono (by simp)), .inr ⟨fun ad e => by have := i5.new ad e; simp at this; omega, i5.tag⟩⟩
    · have hb4 : (k == 4) = false := by simpa using h4
      have hf : M.few k zs = zs := by simp [M.few, h3, h4]
      have HF := Lib.hid hf
      clear h3 h4 hf
      go_enter Tryd.func9, Tryd.ntmps9
      go_wp2
      go_ret
      rw [HF.out]
      exact ⟨a, c, rfl, HZ.out.below HBW.out, hc, HD.out, HBW.out, .inl ⟨rfl, rfl⟩⟩
end Go.Proofs.YtgpifbhfnbkgoaaDoor

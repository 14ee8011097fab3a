/- (*cnf.Formula).Most: the closure and the gate. -/
import Derived.Test.YtgpifbhfnbkgoaaDoorXor
namespace Go.Proofs.YtgpifbhfnbkgoaaDoor
open Go.RowKit Go.Shelf
variable {X : Nat → Prop}

set_option maxHeartbeats 4000000 in
theorem most1_any (base p vars : Nat) (cs : List (List Int)) (a : Option Addr) (c : Nat) (F A B C : Nat) (x y z : Int) (w : World) (hF : Fm X w base p vars cs a c) (hv1 : 1 ≤ vars)
    (hFb : Box w F (.pointer (some ⟨p, 0, none⟩)) 24) (hA : Box w A (.int .i64 x) 3) (hB : Box w B (.int .i64 y) 3) (hC : Box w C (.int .i64 z) 3) (hx : M.isLit x = true) (hy : M.isLit y = true) (hz : M.isLit z = true) (hsm : cs.length + 6 ≤ 1000000) :
    Calls Tryd.prog 65 #[.int .i64 vars, .pointer (some ⟨F, 0, none⟩), .pointer (some ⟨A, 0, none⟩), .pointer (some ⟨B, 0, none⟩), .pointer (some ⟨C, 0, none⟩)] w fun e w' => e = .returned (.tuple #[]) ∧ FmPost X w base p vars ((M.mostC vars x y z).foldl M.addC cs) w' := by
  have hvv := hF.vars
  have hlv := isLit_var hv1 hvv
  have hlx := (M.isLit_iff x).1 hx
  have hly := (M.isLit_iff y).1 hy
  have hlz := (M.isLit_iff z).1 hz
  have hx1 : -20000 ≤ x := hlx.2.1
  have hx2 : x ≤ 20000 := hlx.2.2
  have hy1 : -20000 ≤ y := hly.2.1
  have hy2 : y ≤ 20000 := hly.2.2
  have hz1 : -20000 ≤ z := hlz.2.1
  have hz2 : z ≤ 20000 := hlz.2.2
  clear hlx hly hlz
  have hc1 := hFb.cell
  have hc2 := hA.cell
  have hc3 := hB.cell
  have hc4 := hC.cell
  have hl0 : cs.length ≤ cs.length := Nat.le_refl _
  have HFB := Lib.hid hFb
  have HA := Lib.hid hA
  have HB := Lib.hid hB
  have HC := Lib.hid hC
  have HK0 := Lib.hid (Kp.refl X base w)
  clear hFb hA hB hC
  have HP := Lib.hid (put3 hF (isLit_neg' hlv) hx hy (by omega))
  have hl1 := addC_len1 _ [-(vars : Int), x, y] _ hl0
  clear hl0
  go_enter Tryd.func65, Tryd.ntmps65
  go_wp2_with fail
  refine HP.out.mono ?_
  rintro e w1 ⟨rfl, a1, c1, hF1, hk1⟩
  have hb1 := HFB.out.keep hk1 (by decide) (by decide)
  have hb2 := HA.out.keep hk1 (by decide) (by decide)
  have hb3 := HB.out.keep hk1 (by decide) (by decide)
  have hb4 := HC.out.keep hk1 (by decide) (by decide)
  clear hc1 hc2 hc3 hc4 HP HFB HA HB HC
  have hc1 := hb1.cell
  have hc2 := hb2.cell
  have hc3 := hb3.cell
  have hc4 := hb4.cell
  have HP := Lib.hid (put3 hF1 (isLit_neg' hlv) hx hz (by omega))
  have hl2 := addC_len1 _ [-(vars : Int), x, z] _ hl1
  have HFB := Lib.hid hb1
  have HA := Lib.hid hb2
  have HB := Lib.hid hb3
  have HC := Lib.hid hb4
  have HK1 := Lib.hid (HK0.out.trans hk1)
  clear hb1 hb2 hb3 hb4 hF1 hk1 HK0 hl1
  go_wp2_with fail
  refine HP.out.mono ?_
  rintro e w2 ⟨rfl, a2, c2, hF2, hk2⟩
  have hb1 := HFB.out.keep hk2 (by decide) (by decide)
  have hb2 := HA.out.keep hk2 (by decide) (by decide)
  have hb3 := HB.out.keep hk2 (by decide) (by decide)
  have hb4 := HC.out.keep hk2 (by decide) (by decide)
  clear hc1 hc2 hc3 hc4 HP HFB HA HB HC
  have hc1 := hb1.cell
  have hc2 := hb2.cell
  have hc3 := hb3.cell
  have hc4 := hb4.cell
  have HP := Lib.hid (put3 hF2 (isLit_neg' hlv) hy hz (by omega))
  have hl3 := addC_len1 _ [-(vars : Int), y, z] _ hl2
  have HFB := Lib.hid hb1
  have HA := Lib.hid hb2
  have HB := Lib.hid hb3
  have HC := Lib.hid hb4
  have HK2 := Lib.hid (HK1.out.trans hk2)
  clear hb1 hb2 hb3 hb4 hF2 hk2 HK1 hl2
  go_wp2_with fail
  refine HP.out.mono ?_
  rintro e w3 ⟨rfl, a3, c3, hF3, hk3⟩
  have hb1 := HFB.out.keep hk3 (by decide) (by decide)
  have hb2 := HA.out.keep hk3 (by decide) (by decide)
  have hb3 := HB.out.keep hk3 (by decide) (by decide)
  have hb4 := HC.out.keep hk3 (by decide) (by decide)
  clear hc1 hc2 hc3 hc4 HP HFB HA HB HC
  have hc1 := hb1.cell
  have hc2 := hb2.cell
  have hc3 := hb3.cell
  have hc4 := hb4.cell
  have HP := Lib.hid (put3 hF3 hlv (isLit_neg' hx) (isLit_neg' hy) (by omega))
  have hl4 := addC_len1 _ [(vars : Int), -x, -y] _ hl3
  have HFB := Lib.hid hb1
  have HA := Lib.hid hb2
  have HB := Lib.hid hb3
  have HC := Lib.hid hb4
  have HK3 := Lib.hid (HK2.out.trans hk3)
  clear hb1 hb2 hb3 hb4 hF3 hk3 HK2 hl3
  go_wp2_with fail
  refine HP.out.mono ?_
  rintro e w4 ⟨rfl, a4, c4, hF4, hk4⟩
  have hb1 := HFB.out.keep hk4 (by decide) (by decide)
  have hb2 := HA.out.keep hk4 (by decide) (by decide)
  have hb3 := HB.out.keep hk4 (by decide) (by decide)
  have hb4 := HC.out.keep hk4 (by decide) (by decide)
  clear hc1 hc2 hc3 hc4 HP HFB HA HB HC
  have hc1 := hb1.cell
  have hc2 := hb2.cell
  have hc3 := hb3.cell
  have hc4 := hb4.cell
  have HP := Lib.hid (put3 hF4 hlv (isLit_neg' hx) (isLit_neg' hz) (by omega))
  have hl5 := addC_len1 _ [(vars : Int), -x, -z] _ hl4
  have HFB := Lib.hid hb1
  have HA := Lib.hid hb2
  have HB := Lib.hid hb3
  have HC := Lib.hid hb4
  have HK4 := Lib.hid (HK3.out.trans hk4)
  clear hb1 hb2 hb3 hb4 hF4 hk4 HK3 hl4
  go_wp2_with fail
  refine HP.out.mono ?_
  rintro e w5 ⟨rfl, a5, c5, hF5, hk5⟩
  have hb1 := HFB.out.keep hk5 (by decide) (by decide)
  have hb2 := HA.out.keep hk5 (by decide) (by decide)
  have hb3 := HB.out.keep hk5 (by decide) (by decide)
  have hb4 := HC.out.keep hk5 (by decide) (by decide)
  clear hc1 hc2 hc3 hc4 HP HFB HA HB HC
  have hc1 := hb1.cell
  have hc2 := hb2.cell
  have hc3 := hb3.cell
  have hc4 := hb4.cell
  have HP := Lib.hid (put3 hF5 hlv (isLit_neg' hy) (isLit_neg' hz) (by omega))
  have hl6 := addC_len1 _ [(vars : Int), -y, -z] _ hl5
  have HFB := Lib.hid hb1
  have HA := Lib.hid hb2
  have HB := Lib.hid hb3
  have HC := Lib.hid hb4
  have HK5 := Lib.hid (HK4.out.trans hk5)
  clear hb1 hb2 hb3 hb4 hF5 hk5 HK4 hl5
  go_wp2_with fail
  refine HP.out.mono ?_
  rintro e w6 ⟨rfl, hp6⟩
  have HP6 := Lib.hid hp6
  clear hp6 HP
  go_wp2
  go_end0
  exact ⟨rfl, FmPost.kp_trans HK5.out HP6.out⟩
theorem box4 (w : World) (u v x y : Value) (t1 t2 t3 t4 : TypeId) : let W := ((((w.alloc (.cells #[u] t1)).alloc (.cells #[v] t2)).alloc (.cells #[x] t3)).alloc (.cells #[y] t4)); Box W w.heap.size u t1 ∧ Box W (w.heap.size + 1) v t2 ∧ Box W (w.heap.size + 2) x t3 ∧ Box W (w.heap.size + 3) y t4 := by
  refine ⟨?_, ?_, ?_, ?_⟩
  · show ((((w.heap.push _).push _).push _).push _)[w.heap.size]? = _
    simp only [Array.getElem?_push, Array.size_push]
    rw [if_neg (by omega), if_neg (by omega), if_neg (by omega), if_pos trivial]
  · show ((((w.heap.push _).push _).push _).push _)[w.heap.size + 1]? = _
    simp only [Array.getElem?_push, Array.size_push]
    rw [if_neg (by omega), if_neg (by omega), if_pos trivial]
  · show ((((w.heap.push _).push _).push _).push _)[w.heap.size + 2]? = _
    simp only [Array.getElem?_push, Array.size_push]
    rw [if_neg (by omega), if_pos trivial]
  · show ((((w.heap.push _).push _).push _).push _)[w.heap.size + 3]? = _
    simp only [Array.getElem?_push, Array.size_push]
    rw [if_pos trivial]
set_option maxHeartbeats 1000000 in
theorem most_ok (base p vars : Nat) (cs : List (List Int)) (a : Option Addr) (c : Nat) (x y z : Int) (w : World) (hF : Fm X w base p vars cs a c)
    (hown : M.own vars [x, y, z] = true) (hv : vars < 20000) (hn : cs.length + 6 ≤ 200000) :
    Calls Tryd.prog 36 #[.pointer (some ⟨p, 0, none⟩), .int .i64 x, .int .i64 y, .int .i64 z] w (GateOk X w base p vars ((M.mostC ((vars + 1 : Nat) : Int) x y z).foldl M.addC cs)) := by
  have HF := Lib.hid hF
  have HOW := Lib.hid hown
  clear hF hown
  go_enter Tryd.func36, Tryd.ntmps36
  go_wp2_with fail
  obtain ⟨hW0, hW1, hW2, hW3⟩ := box4 w (.pointer (some ⟨p, 0, none⟩)) (.int .i64 x) (.int .i64 y) (.int .i64 z) 24 3 3 3
  have hbW : Below w.heap.size w ((((w.alloc (.cells #[.pointer (some ⟨p, 0, none⟩)] 24)).alloc (.cells #[.int .i64 x] 3)).alloc (.cells #[.int .i64 y] 3)).alloc (.cells #[.int .i64 z] 3)) := below_alloc (below_alloc (below_alloc (below_alloc (Below.refl _ _) _) _) _) _
  have hsz : ((((w.alloc (.cells #[.pointer (some ⟨p, 0, none⟩)] 24)).alloc (.cells #[.int .i64 x] 3)).alloc (.cells #[.int .i64 y] 3)).alloc (.cells #[.int .i64 z] 3)).heap.size = w.heap.size + 1 + 1 + 1 + 1 := by simp
  generalize hgen : ((((w.alloc (.cells #[.pointer (some ⟨p, 0, none⟩)] 24)).alloc (.cells #[.int .i64 x] 3)).alloc (.cells #[.int .i64 y] 3)).alloc (.cells #[.int .i64 z] 3)) = W at *
  clear hgen
  have hlit := M.own_isLit (vars := vars) (by omega) HOW.out
  have hlx := hlit x (by simp)
  have hly := hlit y (by simp)
  have hlz := hlit z (by simp)
  have hI := Ints.threeT W x y z hlx hly hlz 3
  rw [hsz] at hI
  have hbV : Below w.heap.size w (W.alloc (.cells #[.int .i64 x, .int .i64 y, .int .i64 z] 3)) := below_alloc hbW _
  have hbV1 : Below W.heap.size W (W.alloc (.cells #[.int .i64 x, .int .i64 y, .int .i64 z] 3)) := below_alloc (Below.refl _ _) _
  generalize hgen : W.alloc (.cells #[.int .i64 x, .int .i64 y, .int .i64 z] 3) = V at *
  clear hgen
  have hFV := HF.out.below hbV
  obtain ⟨i1, i2⟩ := hFV.inc hv
  have hfill := most1_any base p (vars + 1) cs a c w.heap.size (w.heap.size + 1) (w.heap.size + 2) (w.heap.size + 3) x y z (V.setCell ⟨p, 0, none⟩ (.int .i64 ((vars : Int) + 1))) i1 (by omega)
    ((hW0.below hbV1).keep (i2.kp hFV) (by decide) (by decide)) ((hW1.below hbV1).keep (i2.kp hFV) (by decide) (by decide)) ((hW2.below hbV1).keep (i2.kp hFV) (by decide) (by decide)) ((hW3.below hbV1).keep (i2.kp hFV) (by decide) (by decide)) hlx hly hlz (by omega)
  have hg : Calls Tryd.prog 59 #[.pointer (some ⟨p, 0, none⟩), .slice (some ⟨w.heap.size + 1 + 1 + 1 + 1, 0, none⟩) 3 3, .int .i64 6, .func (.func 65) #[] #[.pointer (some ⟨w.heap.size, 0, none⟩), .pointer (some ⟨w.heap.size + 1, 0, none⟩), .pointer (some ⟨w.heap.size + 1 + 1, 0, none⟩), .pointer (some ⟨w.heap.size + 1 + 1 + 1, 0, none⟩)]] V _ :=
    gate_ok base p vars cs _ a c (some ⟨w.heap.size + 1 + 1 + 1 + 1, 0, none⟩) 3 [x, y, z] 6 65 #[.pointer (some ⟨w.heap.size, 0, none⟩), .pointer (some ⟨w.heap.size + 1, 0, none⟩), .pointer (some ⟨w.heap.size + 2, 0, none⟩), .pointer (some ⟨w.heap.size + 3, 0, none⟩)] V hFV hI HOW.out hv hn (enters_of Tryd.func65 (by kernel_rfl) rfl) hfill
  have HG := Lib.hid hg
  have HB := Lib.hid hbV
  clear hfill hg hI i1 i2 hFV hW0 hW1 hW2 hW3 hbW hbV hbV1 hsz hlit hlx hly hlz
  refine HG.out.mono ?_
  rintro e w2 ⟨rfl, hp⟩
  have HP := Lib.hid hp
  clear hp
  go_wp2
  go_ret2
  exact ⟨rfl, FmPost.of_below HB.out HP.out⟩
end Go.Proofs.YtgpifbhfnbkgoaaDoor

/- (*cnf.Formula).Xor: the closure and the gate. -/
import Derived.Test.YtgpifbhfnbkgoaaDoorAnd2
namespace Go.Proofs.YtgpifbhfnbkgoaaDoor
open Go.RowKit Go.Shelf
variable {X : Nat → Prop}

theorem Ints.threeT (w : World) (x y z : Int) (hx : M.isLit x = true) (hy : M.isLit y = true) (hz : M.isLit z = true) (e : TypeId) : Ints (w.alloc (.cells #[.int .i64 x, .int .i64 y, .int .i64 z] e)) (some ⟨w.heap.size, 0, none⟩) [x, y, z] := by
  refine ⟨fun _ => ⟨_, 0, rfl, by simp, fun i u hu => ?_⟩, fun u hu => by simp at hu; rcases hu with rfl | rfl | rfl <;> exact I64.of_lit (by assumption), by simp⟩
  match i, hu with
  | 0, hu => simp at hu; subst hu; simp
  | 1, hu => simp at hu; subst hu; simp
  | 2, hu => simp at hu; subst hu; simp
/-- f.put of three literals that were just laid -/
theorem put3 {base p vars : Nat} {cs : List (List Int)} {a : Option Addr} {c : Nat} {w : World} (hF : Fm X w base p vars cs a c) {x y z : Int} (hx : M.isLit x = true) (hy : M.isLit y = true) (hz : M.isLit z = true) (hsm : cs.length + 1 ≤ 1000000) :
    Calls Tryd.prog 61 #[.pointer (some ⟨p, 0, none⟩), .slice (some ⟨w.heap.size, 0, none⟩) 3 3] (w.alloc (.cells #[.int .i64 x, .int .i64 y, .int .i64 z] 3)) fun e w' => e = .returned (.tuple #[]) ∧ FmPost X w base p vars (M.addC cs [x, y, z]) w' := by
  have h := fput_any base p vars cs a c (some ⟨w.heap.size, 0, none⟩) 3 [x, y, z] (w.alloc (.cells #[.int .i64 x, .int .i64 y, .int .i64 z] 3)) (hF.below (below_alloc (Below.refl _ _) _)) (Ints.threeT w x y z hx hy hz _) (fun u hu => by simp at hu; rcases hu with rfl | rfl | rfl <;> assumption) hsm
  exact h.mono fun e w' ⟨h1, h2⟩ => ⟨h1, FmPost.of_below (below_alloc (Below.refl _ _) _) h2⟩
theorem isLit_neg' {x : Int} (h : M.isLit x = true) : M.isLit (-x) = true := by rw [M.isLit_neg]; exact h
theorem addC_len1 (cs : List (List Int)) (c : List Int) (n : Nat) (h : cs.length ≤ n) : (M.addC cs c).length ≤ n + 1 := by have := M.addC_length cs c; omega
set_option maxHeartbeats 2000000 in
theorem xor1_any (base p vars : Nat) (cs : List (List Int)) (a : Option Addr) (c : Nat) (F A B : Nat) (x y : Int) (w : World) (hF : Fm X w base p vars cs a c) (hv1 : 1 ≤ vars)
    (hFb : Box w F (.pointer (some ⟨p, 0, none⟩)) 24) (hA : Box w A (.int .i64 x) 3) (hB : Box w B (.int .i64 y) 3) (hx : M.isLit x = true) (hy : M.isLit y = true) (hsm : cs.length + 4 ≤ 1000000) :
    Calls Tryd.prog 64 #[.int .i64 vars, .pointer (some ⟨F, 0, none⟩), .pointer (some ⟨A, 0, none⟩), .pointer (some ⟨B, 0, none⟩)] w fun e w' => e = .returned (.tuple #[]) ∧ FmPost X w base p vars ((M.xorC vars x y).foldl M.addC cs) w' := by
  have hvv := hF.vars
  have hlv := isLit_var hv1 hvv
  have hlx := (M.isLit_iff x).1 hx
  have hly := (M.isLit_iff y).1 hy
  have hx1 : -20000 ≤ x := hlx.2.1
  have hx2 : x ≤ 20000 := hlx.2.2
  have hy1 : -20000 ≤ y := hly.2.1
  have hy2 : y ≤ 20000 := hly.2.2
  clear hlx hly
  have hc1 := hFb.cell
  have hc2 := hA.cell
  have hc3 := hB.cell
  have HP := Lib.hid (put3 hF (isLit_neg' hlv) hx hy (by omega))
  have HFB := Lib.hid hFb
  have HA := Lib.hid hA
  have HB := Lib.hid hB
  have hl1 := addC_len1 cs [-(vars : Int), x, y] cs.length (Nat.le_refl _)
  clear hFb hA hB
  go_enter Tryd.func64, Tryd.ntmps64
  go_wp2_with fail
  refine HP.out.mono ?_
  rintro e w1 ⟨rfl, a1, c1, hF1, hk1⟩
  have hb1 := HFB.out.keep hk1 (by decide) (by decide)
  have hb2 := HA.out.keep hk1 (by decide) (by decide)
  have hb3 := HB.out.keep hk1 (by decide) (by decide)
  clear hc1 hc2 hc3 HP HFB HA HB
  have hc1 := hb1.cell
  have hc2 := hb2.cell
  have hc3 := hb3.cell
  have HP := Lib.hid (put3 hF1 (isLit_neg' hlv) (isLit_neg' hx) (isLit_neg' hy) (by omega))
  have hl2 := addC_len1 _ [-(vars : Int), -x, -y] _ hl1
  have HFB := Lib.hid hb1
  have HA := Lib.hid hb2
  have HB := Lib.hid hb3
  have HK1 := Lib.hid hk1
  clear hb1 hb2 hb3 hF1 hk1
  go_wp2_with fail
  refine HP.out.mono ?_
  rintro e w2 ⟨rfl, a2, c2, hF2, hk2⟩
  have hb1 := HFB.out.keep hk2 (by decide) (by decide)
  have hb2 := HA.out.keep hk2 (by decide) (by decide)
  have hb3 := HB.out.keep hk2 (by decide) (by decide)
  clear hc1 hc2 hc3 HP HFB HA HB
  have hc1 := hb1.cell
  have hc2 := hb2.cell
  have hc3 := hb3.cell
  have HP := Lib.hid (put3 hF2 hlv (isLit_neg' hx) hy (by omega))
  have hl3 := addC_len1 _ [(vars : Int), -x, y] _ hl2
  have HFB := Lib.hid hb1
  have HA := Lib.hid hb2
  have HB := Lib.hid hb3
  have HK2 := Lib.hid (HK1.out.trans hk2)
  clear hb1 hb2 hb3 hF2 hk2
  go_wp2_with fail
  refine HP.out.mono ?_
  rintro e w3 ⟨rfl, a3, c3, hF3, hk3⟩
  have hb1 := HFB.out.keep hk3 (by decide) (by decide)
  have hb2 := HA.out.keep hk3 (by decide) (by decide)
  have hb3 := HB.out.keep hk3 (by decide) (by decide)
  clear hc1 hc2 hc3 HP HFB HA HB
  have hc1 := hb1.cell
  have hc2 := hb2.cell
  have hc3 := hb3.cell
  have HP := Lib.hid (put3 hF3 hlv hx (isLit_neg' hy) (by omega))
  have HK3 := Lib.hid (HK2.out.trans hk3)
  clear hb1 hb2 hb3 hF3 hk3
  go_wp2_with fail
  refine HP.out.mono ?_
  rintro e w4 ⟨rfl, hp4⟩
  have HP4 := Lib.hid hp4
  clear hp4 HP
  go_wp2
  go_end0
  exact ⟨rfl, FmPost.kp_trans HK3.out HP4.out⟩
theorem box3 (w : World) (u v x : Value) (t1 t2 t3 : TypeId) : Box (((w.alloc (.cells #[u] t1)).alloc (.cells #[v] t2)).alloc (.cells #[x] t3)) w.heap.size u t1 ∧ Box (((w.alloc (.cells #[u] t1)).alloc (.cells #[v] t2)).alloc (.cells #[x] t3)) (w.heap.size + 1) v t2 ∧ Box (((w.alloc (.cells #[u] t1)).alloc (.cells #[v] t2)).alloc (.cells #[x] t3)) (w.heap.size + 2) x t3 := by
  refine ⟨?_, ?_, ?_⟩
  · show (((w.heap.push _).push _).push _)[w.heap.size]? = _
    simp only [Array.getElem?_push, Array.size_push]
    rw [if_neg (by omega), if_neg (by omega), if_pos trivial]
  · show (((w.heap.push _).push _).push _)[w.heap.size + 1]? = _
    simp only [Array.getElem?_push, Array.size_push]
    rw [if_neg (by omega), if_pos trivial]
  · show (((w.heap.push _).push _).push _)[w.heap.size + 2]? = _
    simp only [Array.getElem?_push, Array.size_push]
    rw [if_pos trivial]
set_option maxHeartbeats 1000000 in
theorem xor_ok (base p vars : Nat) (cs : List (List Int)) (a : Option Addr) (c : Nat) (x y : Int) (w : World) (hF : Fm X w base p vars cs a c)
    (hown : M.own vars [x, y] = true) (hv : vars < 20000) (hn : cs.length + 4 ≤ 200000) :
    Calls Tryd.prog 35 #[.pointer (some ⟨p, 0, none⟩), .int .i64 x, .int .i64 y] w (GateOk X w base p vars ((M.xorC ((vars + 1 : Nat) : Int) x y).foldl M.addC cs)) := by
  have HF := Lib.hid hF
  have HOW := Lib.hid hown
  clear hF hown
  go_enter Tryd.func35, Tryd.ntmps35
  go_wp2_with fail
  obtain ⟨hW0, hW1, hW2⟩ := box3 w (.pointer (some ⟨p, 0, none⟩)) (.int .i64 x) (.int .i64 y) 24 3 3
  have hbW : Below w.heap.size w (((w.alloc (.cells #[.pointer (some ⟨p, 0, none⟩)] 24)).alloc (.cells #[.int .i64 x] 3)).alloc (.cells #[.int .i64 y] 3)) := below_alloc (below_alloc (below_alloc (Below.refl _ _) _) _) _
  have hsz : (((w.alloc (.cells #[.pointer (some ⟨p, 0, none⟩)] 24)).alloc (.cells #[.int .i64 x] 3)).alloc (.cells #[.int .i64 y] 3)).heap.size = w.heap.size + 1 + 1 + 1 := by simp
  generalize hgen : (((w.alloc (.cells #[.pointer (some ⟨p, 0, none⟩)] 24)).alloc (.cells #[.int .i64 x] 3)).alloc (.cells #[.int .i64 y] 3)) = W at *
  clear hgen
  have hlit := M.own_isLit (vars := vars) (by omega) HOW.out
  have hlx := hlit x (by simp)
  have hly := hlit y (by simp)
  have hI := Ints.two W x y (I64.of_lit hlx) (I64.of_lit hly) 3
  rw [hsz] at hI
  have hbV : Below w.heap.size w (W.alloc (.cells #[.int .i64 x, .int .i64 y] 3)) := below_alloc hbW _
  have hbV1 : Below W.heap.size W (W.alloc (.cells #[.int .i64 x, .int .i64 y] 3)) := below_alloc (Below.refl _ _) _
  generalize hgen : W.alloc (.cells #[.int .i64 x, .int .i64 y] 3) = V at *
  clear hgen
  have hFV := HF.out.below hbV
  obtain ⟨i1, i2⟩ := hFV.inc hv
  have hfill := xor1_any base p (vars + 1) cs a c w.heap.size (w.heap.size + 1) (w.heap.size + 2) x y (V.setCell ⟨p, 0, none⟩ (.int .i64 ((vars : Int) + 1))) i1 (by omega)
    ((hW0.below hbV1).keep (i2.kp hFV) (by decide) (by decide)) ((hW1.below hbV1).keep (i2.kp hFV) (by decide) (by decide)) ((hW2.below hbV1).keep (i2.kp hFV) (by decide) (by decide)) hlx hly (by omega)
  have hg : Calls Tryd.prog 59 #[.pointer (some ⟨p, 0, none⟩), .slice (some ⟨w.heap.size + 1 + 1 + 1, 0, none⟩) 2 2, .int .i64 4, .func (.func 64) #[] #[.pointer (some ⟨w.heap.size, 0, none⟩), .pointer (some ⟨w.heap.size + 1, 0, none⟩), .pointer (some ⟨w.heap.size + 1 + 1, 0, none⟩)]] V _ :=
    gate_ok base p vars cs _ a c (some ⟨w.heap.size + 1 + 1 + 1, 0, none⟩) 2 [x, y] 4 64 #[.pointer (some ⟨w.heap.size, 0, none⟩), .pointer (some ⟨w.heap.size + 1, 0, none⟩), .pointer (some ⟨w.heap.size + 2, 0, none⟩)] V hFV hI HOW.out hv hn (enters_of Tryd.func64 (by kernel_rfl) rfl) hfill
  have HG := Lib.hid hg
  have HB := Lib.hid hbV
  clear hfill hg hI i1 i2 hFV hW0 hW1 hW2 hbW hbV hbV1 hsz hlit hlx hly
  refine HG.out.mono ?_
  rintro e w2 ⟨rfl, hp⟩
  have HP := Lib.hid hp
  clear hp
  go_wp2
  go_ret2
  exact ⟨rfl, FmPost.of_below HB.out HP.out⟩
end Go.Proofs.YtgpifbhfnbkgoaaDoor

/- (*cnf.Formula).And: the closure and the gate. -/
import Derived.Test.YtgpifbhfnbkgoaaDoorGate
import Derived.Test.YtgpifbhfnbkgoaaDoorBox
import Derived.Deep.RegionWith
namespace Go.Proofs.YtgpifbhfnbkgoaaDoor
open Go.RowKit Go.Shelf
variable {X : Nat → Prop}

/-- it lies below base, or among ints -/
def KeptI (w : World) (base : Nat) (b : Option Addr) : Prop := ∀ ad, b = some ad → ad.block < base ∨ ∃ cur m, w.heap[ad.block]? = some (.cells cur 3 m)
theorem TagI.kept {w : World} {base : Nat} {b : Option Addr} {zs : List Int} (h : TagI w b) : KeptI w base (eff b zs) := fun ad e => .inr (h ad (eff_some e))
theorem Kp.intsK {base : Nat} {w w' : World} (hk : Kp X base w w') (hb : base ≤ w.heap.size) {b : Option Addr} {zs : List Int} (hz : Ints w b zs) (ht : KeptI w base (eff b zs)) : Ints w' b zs ∧ KeptI w' base (eff b zs) := by
  have key : ∀ ad, eff b zs = some ad → w'.heap[ad.block]? = w.heap[ad.block]? := by
    intro ad e
    rcases ht ad e with h | ⟨cur, m, hc⟩
    · exact hk.block _ (by omega) (.inl h)
    · exact hk.block _ (Array.getElem?_eq_some_iff.1 hc).1 (.inr (.inr ⟨cur, _, m, hc, by decide, by decide⟩))
  refine ⟨hz.sameE hk.size key, fun ad e => ?_⟩
  · rcases ht ad e with h | ⟨cur, m, hc⟩
    · exact .inl h
    · exact .inr ⟨cur, m, (key ad e).trans hc⟩
theorem fput_post {w w1 w2 : World} {base p vars : Nat} {cs : List (List Int)} (h : Kp X base w w1) (h2 : FmPost X w1 base p vars cs w2) : FmPost X w base p vars cs w2 := FmPost.kp_trans h h2
theorem isLit_var {vars : Nat} (h1 : 1 ≤ vars) (h2 : vars ≤ 20000) : M.isLit (vars : Int) = true := by rw [M.isLit_iff]; omega
set_option maxHeartbeats 2000000 in
theorem and1_any (base p vars : Nat) (cs : List (List Int)) (a : Option Addr) (c : Nat) (L F : Nat) (b : Option Addr) (d : Nat) (zs : List Int) (w : World) (hF : Fm X w base p vars cs a c) (hb : base ≤ w.heap.size) (hv1 : 1 ≤ vars)
    (hL : Box w L (.slice b zs.length d) 30) (hFb : Box w F (.pointer (some ⟨p, 0, none⟩)) 24) (hz : Ints w b zs) (hzk : KeptI w base (eff b zs)) (hl : ∀ z ∈ zs, M.isLit z = true) (hsm : cs.length + zs.length + 1 ≤ 1000000) :
    Calls Tryd.prog 60 #[.int .i64 vars, .pointer (some ⟨L, 0, none⟩), .pointer (some ⟨F, 0, none⟩)] w fun e w' => e = .returned (.tuple #[]) ∧ FmPost X w base p vars ((M.andC vars zs).foldl M.addC cs) w' := by
  have hvv := hF.vars
  have HL := Lib.hid hl
  have hc0 := hL.cell
  have HLB := Lib.hid hL
  have HFB := Lib.hid hFb
  have hlv := isLit_var hv1 hvv
  have HZK := Lib.hid hzk
  clear hl hL hFb hzk
  go_enter Tryd.func60, Tryd.ntmps60
  go_wp2
  clear hc0
  go_loopw [5, 8] (fun _ i wr => ∃ k : Nat, k ≤ zs.length ∧ i = .int .i64 k ∧ FmPost X w base p vars (((zs.take k).map fun x => [-(vars : Int), x]).foldl M.addC cs) wr) (fun _ i _ => zs.length - (intOf i).toNat)
  case atStart => exact ⟨0, Nat.zero_le _, rfl, a, c, hF, Kp.refl _ _ _⟩
  case round =>
    obtain ⟨k, hk, rfl, a1, c1, hF1, hk1⟩ := hrel
    have hI := hk1.intsK hb hz HZK.out
    have hcF := (HFB.out.keep hk1 (by decide) (by decide)).cell
    have hcL := (HLB.out.keep hk1 (by decide) (by decide)).cell
    have HF1 := Lib.hid hF1
    have HK1 := Lib.hid hk1
    have HI := Lib.hid hI
    have hlen1 := M.addCs_length cs ((zs.take k).map fun x => [-(vars : Int), x])
    simp only [List.length_map, List.length_take] at hlen1
    clear hF1 hk1 hI
    by_cases hlt : k < zs.length
    · obtain ⟨bb, off, rfl, hbl, hcl⟩ := HI.out.1.addr (by omega)
      obtain ⟨z, hzk⟩ : ∃ z, zs[k]? = some z := ⟨zs[k], by simp [hlt]⟩
      have hcell := hcl k z hzk
      have HZ := Lib.hid hzk
      have hlz := HL.out z (List.mem_of_getElem? hzk)
      clear hcl hzk
      have hlits : ∀ x ∈ [-(vars : Int), z], M.isLit x = true := by
        intro x hx; simp at hx; rcases hx with rfl | rfl
        · rw [M.isLit_neg]; exact hlv
        · exact hlz
      have HLT := Lib.hid hlits
      have hfp := fput_any base p vars _ a1 c1 (some ⟨wr.heap.size, 0, none⟩) 2 [-(vars : Int), z] (wr.alloc (.cells #[.int .i64 (-(vars : Int)), .int .i64 z] 3)) (HF1.out.below (below_alloc (Below.refl _ _) _)) (Ints.two _ _ _ (I64.of_lit (hlits _ (by simp))) (I64.of_lit (hlits _ (by simp))) _) hlits (by omega)
      have HFP := Lib.hid hfp
      clear hlits hfp hlen1
      go_wp2_with fail
      refine HFP.out.mono ?_
      rintro e w2 ⟨rfl, hp2⟩
      have HP2 := Lib.hid hp2
      clear hp2
      go_wp2
      go_roundw
      case rel =>
        refine ⟨k + 1, by omega, by go_num, ?_⟩
        rw [List.take_add_one, HZ.out]
        simp only [List.map_append, List.foldl_append, Option.toList_some, List.map_cons, List.map_nil, List.foldl_cons, List.foldl_nil]
        exact FmPost.kp_trans (HK1.out.trans (Kp.of_below (below_alloc (Below.refl _ _) _))) HP2.out
      case measure => simp [intOf]; omega
    · obtain rfl : k = zs.length := by omega
      have hcs1 : (((zs.take zs.length).map fun x => [-(vars : Int), x]).foldl M.addC cs).length + 1 ≤ 1000000 := by omega
      have HCS := Lib.hid hcs1
      clear hlen1 hcs1
      have hlits : ∀ x ∈ (vars : Int) :: zs.map (- ·), M.isLit x = true := by
        intro x hx; simp at hx; rcases hx with rfl | ⟨y, hy, rfl⟩
        · exact hlv
        · rw [M.isLit_neg]; exact HL.out y hy
      have HLT := Lib.hid hlits
      clear hlits
      have hop : ∀ W, Below wr.heap.size wr W → Calls Tryd.prog 62 #[.int .i64 vars, .slice b zs.length d] W (NewIntsT W ((vars : Int) :: zs.map (- ·))) := fun W hW => opposites_any vars b d zs W (HI.out.1.below hW) hlv HL.out (by omega)
      have HOP := Lib.hid hop
      clear hop
      go_wp2
      go_region_with (first
        | (go_at_call 62; refine (HOP.out _ ?_).mono ?_; exact (Below.refl _ _).drew; rintro e w3 ⟨a3, c3, rfl, h1, h2, h3, h4, h5⟩; have hb3 : Below wr.heap.size wr w3 := ((Below.refl _ _).drew).trans h4; have hcF3 := (HFB.out.keep (HK1.out.trans (Kp.of_below hb3)) (by decide) (by decide)).cell; have hfp := fput_any base p vars _ a1 c1 a3 c3 _ w3 (HF1.out.below hb3) h1 HLT.out HCS.out; simp only [List.length_cons, List.length_map] at hfp; have HFP := Lib.hid hfp; have HB3 := Lib.hid hb3; clear h1 h2 h3 h4 h5 hb3 hfp)
        | (go_at_call 61; refine HFP.out.mono ?_; rintro e w4 ⟨rfl, hp4⟩; have HP4 := Lib.hid hp4; clear hp4))
      all_goals
        go_end0
        refine ⟨rfl, ?_⟩
        have hp := HP4.out
        rw [List.take_of_length_le (Nat.le_refl _)] at hp
        rw [M.andC, List.foldl_append]
        exact FmPost.kp_trans (HK1.out.trans (Kp.of_below HB3.out)) hp
end Go.Proofs.YtgpifbhfnbkgoaaDoor

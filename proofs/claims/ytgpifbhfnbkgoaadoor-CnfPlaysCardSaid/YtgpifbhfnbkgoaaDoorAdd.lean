/- (*cnf.Formula).Add. -/
import Derived.Test.YtgpifbhfnbkgoaaDoorAnd2
namespace Go.Proofs.YtgpifbhfnbkgoaaDoor
open Go.RowKit Go.Shelf
variable {X : Nat → Prop}

set_option maxHeartbeats 1000000 in
set_option maxRecDepth 20000 in
theorem add_ok (base p vars : Nat) (cs : List (List Int)) (a : Option Addr) (c : Nat) (b : Option Addr) (d : Nat) (zs : List Int) (w : World) (hF : Fm X w base p vars cs a c) (hz : Ints w b zs) (hown : M.own vars zs = true) (hsm : cs.length + 1 ≤ 200000) :
    Calls Tryd.prog 13 #[.pointer (some ⟨p, 0, none⟩), .slice b zs.length d] w fun e w' => e = .returned .nilIface ∧ FmPost X w base p vars (M.addC cs zs) w' := by
  have HL := Lib.hid (M.own_isLit hF.vars hown)
  have hdl : decide ((200000 : Int) ≤ (cs.length : Int)) = false := by simp; omega
  have hsm6 : cs.length + 1 ≤ 1000000 := by omega
  have HS6 := Lib.hid hsm6
  clear hsm hsm6
  have hps := hF.lt
  have hbp := hF.le
  have hhas := has_any p vars b d zs w hF.cell0 hF.vars hz
  rw [hown] at hhas
  have HH := Lib.hid hhas
  clear hhas hown
  go_enter Tryd.func13, Tryd.ntmps13
  go_wp2_with (go_at_call 40; refine HH.out.mono ?_; rintro e w' ⟨rfl, rfl⟩)
  refine (norm_ok _ _ _ _ hz HL.out).mono ?_
  rintro e w1 ⟨a1, c1, rfl, h1, h2, h3, h4, h5⟩
  have H1 := Lib.hid h1
  have H2 := Lib.hid h2
  have H3 := Lib.hid h3
  have H4 := Lib.hid h4
  have H5 := Lib.hid h5
  clear h1 h2 h3 h4 h5
  have htt := tautology_any a1 c1 (M.norm zs) w1 H1.out H2.out H3.out
  rw [only_norm HL.out] at htt
  have HT := Lib.hid htt
  clear htt
  have hadd : M.addC cs zs = if M.adj (M.norm zs) then cs else cs ++ [M.norm zs] := rfl
  have HA := Lib.hid hadd
  clear hadd
  generalize hgen : M.norm zs = ys at *
  clear hgen
  cases hadj : M.adj ys
  · go_wp2_with fail
    refine HT.out.mono ?_
    rintro e w2 ⟨rfl, hb2⟩
    have HB := Lib.hid (H4.out.trans (hb2.mono H4.out.size))
    have hF2 := hF.below HB.out
    have hc1 := hF2.cell1
    have hps2 := hF2.lt
    have HF2 := Lib.hid hF2
    have HI := Lib.hid (H1.out.below hb2)
    have HTG := Lib.hid ((H5.out.x hF.xlt).below hb2)
    clear hF2 hb2 HT H4
    go_wp2_with (at_builtin; refine wpList_append_Clauses rfl (.tmp 33) (.tmp 35) rfl base _ _ _ cs rfl rfl (HF2.out.below (below_alloc (Below.refl _ _) _)).own (some ⟨w2.heap.size, 0, none⟩) 1 1 [ys] rfl rfl (ClsT.one (b := a1) (d := c1) (by simp) (HI.out.alloc _) (HTG.out.below (below_alloc (Below.refl _ _) _)) H2.out H3.out) (HF2.out.below (below_alloc (Below.refl _ _) _)).xlt HS6.out (by simp; omega) ?_; intro a3 c3 w3 hown3 hg3; obtain ⟨hk1, hk2, hk0⟩ := (HF2.out.below (below_alloc (Below.refl _ _) _)).grown hg3; have HO3 := Lib.hid hown3; have HG3 := Lib.hid hg3; clear hown3 hg3)
    go_ret
    refine ⟨rfl, ?_⟩
    rw [HA.out, hadj]
    obtain ⟨r1, r2⟩ := hF.stored (below_alloc HB.out _) HO3.out HG3.out HS6.out
    exact ⟨a3, c3, r1, r2.kp hF⟩
  · go_wp2_with (go_at_call 42; refine HT.out.mono ?_; rintro e w2 ⟨rfl, hb2⟩)
    go_ret
    refine ⟨rfl, ?_⟩
    rw [HA.out, hadj]
    have hB := H4.out.trans (hb2.mono H4.out.size)
    exact ⟨a, c, hF.below hB, Kp.of_below hB⟩
end Go.Proofs.YtgpifbhfnbkgoaaDoor

/- OrderRings: for all arguments the law returns true, and its arguments read as they did. -/
import Derived.Test.YtnmcajinaigcjaaGreatDoorORLaw
import Derived.Test.YtnmcajinaigcjaaGreatDoorQOpen
import Derived.Test.YtnmcajinaigcjaaGreatDoorQLaid
import Derived.Test.YtnmcajinaigcjaaGreatDoorRows
import Derived.Test.YtnmcajinaigcjaaGreatDoorTie
import Derived.Test.YtnmcajinaigcjaaGreatDoorCards
import Derived.SevenTiedAt
import Derived.ProofKit
import Derived.LaidMore
import Derived.OpenShut
import Derived.Stop.Joined
import Derived.SizedLaws
import Derived.Deep.Grids
namespace Go.Proofs.YtnmcajinaigcjaaGreatDoor
open Go.ChangeShapes Go.WideShapes Go.ChangeAt Go.WideMaps Go.WideElems Go.RowKit Go.Deep

theorem ownK : ownKnob Tryz.prog.godebug = none := by kernel_rfl
theorem laidOutP : laidOutB Tryz.prog = true := by kernel_rfl
theorem orderRings_met (os : Os) (args : Array Value) : laidMetH Tryz.prog Rows.orderRingsRow.laid ((World.doorLaid Tryz.prog 400 os).forCall (fun _ _ => 0) ⟨#[], args, []⟩).memory :=
  laidMetH_of_parts3 (fuel := 8) (laidMet_of_run' 8 (by kernel_rfl) (by kernel_rfl)) (by kernel_rfl) (by kernel_rfl)
set_option maxRecDepth 100000 in
theorem orderRings_lifted (os : Os) (started : os.Started) (H : Type) (enc : TypeId × Value → H) :
    ReturnsInHanded {} Tryz.checked os 3 .any (fun w args => (Rows.orderRingsSpec.pre enc Tryz.prog Tryz.f3 [] false w args ∧ laidMetH Tryz.prog Rows.orderRingsRow.laid w) ∧ sizedMet enc Tryz.prog Tryz.f3 (OpenSpec.ofChange Rows.orderRingsSpec) false w args)
      (Rows.orderRingsSpec.post enc Tryz.prog Tryz.f3 false true false false) := by
  refine returnsInHanded_of_change_and (C := Tryz.checked) (X := fun w _ => laidMetH Tryz.prog Rows.orderRingsRow.laid w) (fun _ _ _ hh h => h.of_heap hh) ownK started (by kernel_rfl) Tryz.func3
    (ChangeSpec.witness_shaped (enc := enc) (C := Tryz.checked) (os := os) (X := fun w _ => laidMetH Tryz.prog Rows.orderRingsRow.laid w) false (World.doorLaid Tryz.prog 400 os) #[.slice none 0 0, .slice none 0 0] 8 rfl (World.shaped_of_RefB (by kernel_rfl) (by kernel_rfl)) (by kernel_rfl) (by kernel_rfl) (by kernel_rfl) (orderRings_met os _)) ?_
  intro W base args ds gs before hval0 hW _ hsz hL _
  have hval : ∀ (j : Nat) t v, Tryz.f3.params[j]? = some t → args[j]? = some v → Value.okWide Tryz.prog W .any base t v := hval0
  have hW' := hW
  obtain ⟨p, q, hA0, hV, rfl, hfz, hnd⟩ := hW
  have hA : DataW.TrodAll enc Tryz.prog W 0 (fun _ => true) true Tryz.f3.params.toList args.toList ds p := hA0
  rw [Tryz.params3] at hA hval
  obtain ⟨v0, vs0, d0, ds0, p0, q0, hargs, rfl, rfl, h0, r0⟩ := trodAll_cons hA
  obtain ⟨v1, vs1, d1, ds1, p1, q1, rfl, rfl, rfl, h1, r1⟩ := trodAll_cons r0
  obtain ⟨rfl, rfl, rfl⟩ := trodAll_nil r1
  obtain rfl : args = #[v0, v1] := by cases args; simp_all
  obtain ⟨rfl, rfl⟩ := trodVars_none hV
  obtain ⟨a0, len0, cap0, rfl⟩ := okWide_slice Tryz.underlying22 (hval 0 22 v0 rfl rfl)
  have k0 := h0
  have lt0 : ∀ y ∈ p0, y.block < W.heap.size := by obtain ⟨m, hm⟩ := k0; exact DataW.trod_lt m _ _ _ hm
  obtain ⟨fuel0, hf0⟩ := h0
  have hr0 : InReach Tryz.prog 22 d0 := fun q hq => by
    have := List.all_eq_true.1 hsz q (DataW.weights_mem_each (j := 0) (t := 22) (d := d0) (by rw [Tryz.params3]; rfl) rfl q hq)
    simpa using this
  have hq0 := q_rcs hf0 hr0 lt0
  obtain ⟨z0, b0, c0, e0, hc0, hs0⟩ := hq0
  simp [Value.cells] at e0
  obtain ⟨rfl, rfl, rfl⟩ := e0
  obtain ⟨a1, len1, cap1, rfl⟩ := okWide_slice Tryz.underlying23 (hval 1 23 v1 rfl rfl)
  have k1 := h1
  have lt1 : ∀ y ∈ p1, y.block < W.heap.size := by obtain ⟨m, hm⟩ := k1; exact DataW.trod_lt m _ _ _ hm
  obtain ⟨fuel1, hf1⟩ := h1
  have hr1 : InReach Tryz.prog 23 d1 := fun q hq => by
    have := List.all_eq_true.1 hsz q (DataW.weights_mem_each (j := 1) (t := 23) (d := d1) (by rw [Tryz.params3]; rfl) rfl q hq)
    simpa using this
  have hq1 := q_bools hf1 hr1 lt1
  obtain ⟨b1, c1, z1, e1, hc1, hs1⟩ := hq1
  simp [Value.cells] at e1
  obtain ⟨rfl, rfl, rfl⟩ := e1
  clear hA0 hval0
  obtain ⟨A, hAne, hAt⟩ := errs_many Rows.orderRingsRow.laid hL rfl rfl (by kernel_rfl)
  have hESize := (hAt 2 _ 0 rfl (by kernel_rfl)).cell
  have hERange := (hAt 9 _ 1 rfl (by kernel_rfl)).cell
  have hErrs : Errs W fun i => A ([0, 1, 2, 3, 4, 5, 6, 7, 8, 9, 10, 11, 12].getD i 0) := ⟨fun i g hg => by
    match i, hg with
    | 0, hg => cases hg; exact hAt 0 _ 2 rfl (by kernel_rfl)
    | 1, hg => cases hg; exact hAt 1 _ 3 rfl (by kernel_rfl)
    | 2, hg => cases hg; exact hAt 2 _ 0 rfl (by kernel_rfl)
    | 3, hg => cases hg; exact hAt 3 _ 4 rfl (by kernel_rfl)
    | 4, hg => cases hg; exact hAt 4 _ 5 rfl (by kernel_rfl)
    | 5, hg => cases hg; exact hAt 5 _ 6 rfl (by kernel_rfl)
    | 6, hg => cases hg; exact hAt 6 _ 7 rfl (by kernel_rfl)
    | 7, hg => cases hg; exact hAt 7 _ 8 rfl (by kernel_rfl)
    | 8, hg => cases hg; exact hAt 8 _ 9 rfl (by kernel_rfl)
    | 9, hg => cases hg; exact hAt 9 _ 1 rfl (by kernel_rfl)
    | 10, hg => cases hg; exact hAt 10 _ 10 rfl (by kernel_rfl)
    | 11, hg => cases hg; exact hAt 11 _ 11 rfl (by kernel_rfl)
    | 12, hg => cases hg; exact hAt 12 _ 12 rfl (by kernel_rfl)
    | n + 13, hg => simp [errG] at hg, fun i j hi hj e => by
      have h1 : ∀ i, i < 13 → [0, 1, 2, 3, 4, 5, 6, 7, 8, 9, 10, 11, 12].getD i 0 < 13 := by decide
      have h2 : ∀ i, i < 13 → ∀ j, j < 13 → [0, 1, 2, 3, 4, 5, 6, 7, 8, 9, 10, 11, 12].getD i 0 = [0, 1, 2, 3, 4, 5, 6, 7, 8, 9, 10, 11, 12].getD j 0 → i = j := by decide
      exact h2 i hi j hj (hAne _ _ (h1 i hi) (h1 j hj) e)⟩
  refine (ringsLaw _ a0 a1 cap0 cap1 z0 z1 W ⟨hs0, hs1⟩ hErrs).mono fun e W' ⟨he, bel⟩ => ?_
  subst he
  exact ⟨_, rfl, _, _, _, [], _, [], hW', trodAll_mk1 (shut_bool Tryz.underlying4 _), (trodAll_cons_mk (Below.trod laidOutP (by kernel_rfl) (of_decide_eq_true (by kernel_rfl)) k0 bel lt0) (trodAll_cons_mk (Below.trod laidOutP (by kernel_rfl) (of_decide_eq_true (by kernel_rfl)) k1 bel lt1) trodAll_mk0)), rfl, bel.frame _, fun h => by cases h⟩

theorem orderRings_holds : Rows.OrderRingsSaid :=
  OpenClaim.holds_of_wide 3 Tryz.f3 rfl rfl rfl rfl rfl rfl rfl ⟨rfl, rfl, rfl, rfl, rfl⟩ rfl rfl rfl rfl rfl (by kernel_rfl) Tryz.func3 (by kernel_rfl)
    (of_decide_eq_true (by kernel_rfl)) (by unfold Func.isWrapper; first | (rw [if_pos (by decide +kernel)]; kernel_rfl) | (rw [if_neg (by decide +kernel)]; exact ⟨rfl, rfl⟩))
    (fun os started H enc _ => orderRings_lifted os started H enc)
theorem orderRings_card : Rows.OrderRingsCardSaid :=
  Claim7.holds_tied_plain_at .later [] [.sentinel, .sentinel, .sentinel, .sentinel, .sentinel, .sentinel, .sentinel, .sentinel, .sentinel, .sentinel, .sentinel, .sentinel, .sentinel] true Rows.orderRingsCard.stood.harness true
    orderRings_holds (fun _ h => by cases h) (by kernel_rfl) (fun _ h => by cases h) orderRings_row_tie rfl ⟨rfl, rfl⟩ (by kernel_rfl) rfl
    (fun f fn hf hfn => by
      obtain rfl : f = 3 := Option.some.inj ((show Tryz.prog.funcNamed Rows.orderRingsRow.func = some 3 by kernel_rfl).symm.trans hf) |>.symm
      obtain rfl : fn = Tryz.f3 := (Option.some.inj (Tryz.func3.symm.trans hfn)).symm
      exact ⟨by kernel_rfl, fun j t ht => by
        rw [Tryz.params3] at ht
        rcases j with _ | _ | j
        · have h3 : t = 22 := by simpa using ht.symm
          subst h3; exact (show Tryz.prog.wantsStandIn 22 = false by kernel_rfl)
        · have h3 : t = 23 := by simpa using ht.symm
          subst h3; exact (show Tryz.prog.wantsStandIn 23 = false by kernel_rfl)
        · simp at ht⟩)
    (by kernel_rfl)
#print axioms orderRings_card
end Go.Proofs.YtnmcajinaigcjaaGreatDoor

/- RulesOf: for all arguments the law returns true, and its arguments read as they did. -/
import Derived.Test.YtnmcajinaigcjaaGreatDoorWLaw
import Derived.Test.YtnmcajinaigcjaaGreatDoorQOpenD
import Derived.Test.YtnmcajinaigcjaaGreatDoorQLaid
import Derived.Test.YtnmcajinaigcjaaGreatDoorRows
import Derived.Test.YtnmcajinaigcjaaGreatDoorTie
import Derived.Test.YtnmcajinaigcjaaGreatDoorCards
import Derived.SevenTiedAt
import Derived.ProofKit
import Derived.LaidMore
import Derived.OpenShut
import Derived.Stop.Joined
import Derived.SizedLaws
import Derived.Deep.Grids
namespace Go.Proofs.YtnmcajinaigcjaaGreatDoor
open Go.ChangeShapes Go.WideShapes Go.ChangeAt Go.WideMaps Go.WideElems Go.RowKit Go.Deep

theorem ownK : ownKnob Tryz.prog.godebug = none := by kernel_rfl
theorem laidOutP : laidOutB Tryz.prog = true := by kernel_rfl
theorem rulesOf_met (os : Os) (args : Array Value) : laidMetH Tryz.prog Rows.rulesOfRow.laid ((World.doorLaid Tryz.prog 400 os).forCall (fun _ _ => 0) ⟨#[], args, []⟩).memory :=
  laidMetH_of_parts3 (fuel := 8) (laidMet_of_run' 8 (by kernel_rfl) (by kernel_rfl)) (by kernel_rfl) (by kernel_rfl)
set_option maxRecDepth 100000 in
theorem rulesOf_lifted (os : Os) (started : os.Started) (H : Type) (enc : TypeId × Value → H) :
    ReturnsInHanded {} Tryz.checked os 4 .any (fun w args => (Rows.rulesOfSpec.pre enc Tryz.prog Tryz.f4 [] false w args ∧ laidMetH Tryz.prog Rows.rulesOfRow.laid w) ∧ sizedMet enc Tryz.prog Tryz.f4 (OpenSpec.ofChange Rows.rulesOfSpec) false w args)
      (Rows.rulesOfSpec.post enc Tryz.prog Tryz.f4 false true false false) := by
  refine returnsInHanded_of_change_and (C := Tryz.checked) (X := fun w _ => laidMetH Tryz.prog Rows.rulesOfRow.laid w) (fun _ _ _ hh h => h.of_heap hh) ownK started (by kernel_rfl) Tryz.func4
    (ChangeSpec.witness_shaped (enc := enc) (C := Tryz.checked) (os := os) (X := fun w _ => laidMetH Tryz.prog Rows.rulesOfRow.laid w) false (World.doorLaid Tryz.prog 400 os) #[.agg #[.slice none 0 0, .slice none 0 0, .slice none 0 0, .slice none 0 0]] 8 rfl (World.shaped_of_RefB (by kernel_rfl) (by kernel_rfl)) (by kernel_rfl) (by kernel_rfl) (by kernel_rfl) (rulesOf_met os _)) ?_
  intro W base args ds gs before hval0 hW _ hsz hL _
  have hval : ∀ (j : Nat) t v, Tryz.f4.params[j]? = some t → args[j]? = some v → Value.okWide Tryz.prog W .any base t v := hval0
  have hW' := hW
  obtain ⟨p, q, hA0, hV, rfl, hfz, hnd⟩ := hW
  have hA : DataW.TrodAll enc Tryz.prog W 0 (fun _ => true) true Tryz.f4.params.toList args.toList ds p := hA0
  rw [Tryz.params4] at hA hval
  obtain ⟨v0, vs0, d0, ds0, p0, q0, hargs, rfl, rfl, h0, r0⟩ := trodAll_cons hA
  obtain ⟨rfl, rfl, rfl⟩ := trodAll_nil r0
  obtain rfl : args = #[v0] := by cases args; simp_all
  obtain ⟨rfl, rfl⟩ := trodVars_none hV
  obtain ⟨cs0, rfl, _⟩ := okWide_struct Tryz.underlying42 (hval 0 42 v0 rfl rfl)
  have k0 := h0
  have lt0 : ∀ y ∈ p0, y.block < W.heap.size := by obtain ⟨m, hm⟩ := k0; exact DataW.trod_lt m _ _ _ hm
  obtain ⟨fuel0, hf0⟩ := h0
  have hr0 : InReach Tryz.prog 42 d0 := fun q hq => by
    have := List.all_eq_true.1 hsz q (DataW.weights_mem_each (j := 0) (t := 42) (d := d0) (by rw [Tryz.params4]; rfl) rfl q hq)
    simpa using this
  have hq0 := q_choice hf0 hr0 lt0
  obtain ⟨xa, xo, xb, xd, xc, xoc, xe, xdc, xl, xon, xch, xds, e0, hs0⟩ := hq0
  simp [Value.cells] at e0
  obtain rfl : cs0 = #[.slice xa xl.length xc, .slice xo xon.length xoc, .slice xb xch.length xe, .slice xd xds.length xdc] := by cases cs0; simp_all
  clear hA0 hval0
  obtain ⟨A, hAne, hAt⟩ := errs_many Rows.rulesOfRow.laid hL rfl rfl (by kernel_rfl)
  have hESize := (hAt 2 _ 0 rfl (by kernel_rfl)).cell
  have hERange := (hAt 9 _ 1 rfl (by kernel_rfl)).cell
  have hErrs : Errs W fun i => A ([0, 1, 2, 3, 4, 5, 6, 7, 8, 9, 10, 11, 12].getD i 0) := ⟨fun i g hg => by
    match i, hg with
    | 0, hg => cases hg; exact hAt 0 _ 2 rfl (by kernel_rfl)
    | 1, hg => cases hg; exact hAt 1 _ 3 rfl (by kernel_rfl)
    | 2, hg => cases hg; exact hAt 2 _ 0 rfl (by kernel_rfl)
    | 3, hg => cases hg; exact hAt 3 _ 4 rfl (by kernel_rfl)
    | 4, hg => cases hg; exact hAt 4 _ 5 rfl (by kernel_rfl)
    | 5, hg => cases hg; exact hAt 5 _ 6 rfl (by kernel_rfl)
    | 6, hg => cases hg; exact hAt 6 _ 7 rfl (by kernel_rfl)
    | 7, hg => cases hg; exact hAt 7 _ 8 rfl (by kernel_rfl)
    | 8, hg => cases hg; exact hAt 8 _ 9 rfl (by kernel_rfl)
    | 9, hg => cases hg; exact hAt 9 _ 1 rfl (by kernel_rfl)
    | 10, hg => cases hg; exact hAt 10 _ 10 rfl (by kernel_rfl)
    | 11, hg => cases hg; exact hAt 11 _ 11 rfl (by kernel_rfl)
    | 12, hg => cases hg; exact hAt 12 _ 12 rfl (by kernel_rfl)
    | n + 13, hg => simp [errG] at hg, fun i j hi hj e => by
      have h1 : ∀ i, i < 13 → [0, 1, 2, 3, 4, 5, 6, 7, 8, 9, 10, 11, 12].getD i 0 < 13 := by decide
      have h2 : ∀ i, i < 13 → ∀ j, j < 13 → [0, 1, 2, 3, 4, 5, 6, 7, 8, 9, 10, 11, 12].getD i 0 = [0, 1, 2, 3, 4, 5, 6, 7, 8, 9, 10, 11, 12].getD j 0 → i = j := by decide
      exact h2 i hi j hj (hAne _ _ (h1 i hi) (h1 j hj) e)⟩
  refine (rulesOfLaw _ xa xo xb xd xc xoc xe xdc xl xon xch xds W hs0 hErrs).mono fun e W' ⟨he, bel⟩ => ?_
  subst he
  exact ⟨_, rfl, _, _, _, [], _, [], hW', trodAll_mk1 (shut_bool Tryz.underlying4 _), (trodAll_cons_mk (Below.trod laidOutP (by kernel_rfl) (of_decide_eq_true (by kernel_rfl)) k0 bel lt0) trodAll_mk0), rfl, bel.frame _, fun h => by cases h⟩

theorem rulesOf_holds : Rows.RulesOfSaid :=
  OpenClaim.holds_of_wide 4 Tryz.f4 rfl rfl rfl rfl rfl rfl rfl ⟨rfl, rfl, rfl, rfl, rfl⟩ rfl rfl rfl rfl rfl (by kernel_rfl) Tryz.func4 (by kernel_rfl)
    (of_decide_eq_true (by kernel_rfl)) (by unfold Func.isWrapper; first | (rw [if_pos (by decide +kernel)]; kernel_rfl) | (rw [if_neg (by decide +kernel)]; exact ⟨rfl, rfl⟩))
    (fun os started H enc _ => rulesOf_lifted os started H enc)
theorem rulesOf_card : Rows.RulesOfCardSaid :=
  Claim7.holds_tied_plain_at .later [] [.sentinel, .sentinel, .sentinel, .sentinel, .sentinel, .sentinel, .sentinel, .sentinel, .sentinel, .sentinel, .sentinel, .sentinel, .sentinel] true Rows.rulesOfCard.stood.harness true
    rulesOf_holds (fun _ h => by cases h) (by kernel_rfl) (fun _ h => by cases h) rulesOf_row_tie rfl ⟨rfl, rfl⟩ (by kernel_rfl) rfl
    (fun f fn hf hfn => by
      obtain rfl : f = 4 := Option.some.inj ((show Tryz.prog.funcNamed Rows.rulesOfRow.func = some 4 by kernel_rfl).symm.trans hf) |>.symm
      obtain rfl : fn = Tryz.f4 := (Option.some.inj (Tryz.func4.symm.trans hfn)).symm
      exact ⟨by kernel_rfl, fun j t ht => by
        rw [Tryz.params4] at ht
        rcases j with _ | j
        · have h3 : t = 42 := by simpa using ht.symm
          subst h3; exact (show Tryz.prog.wantsStandIn 42 = false by kernel_rfl)
        · simp at ht⟩)
    (by kernel_rfl)
#print axioms rulesOf_card
end Go.Proofs.YtnmcajinaigcjaaGreatDoor

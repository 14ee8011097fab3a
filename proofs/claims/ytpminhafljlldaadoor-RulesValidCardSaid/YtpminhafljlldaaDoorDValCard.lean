/- RulesValid: for all arguments the law returns true, and its arguments read as they did. -/
import Derived.Test.YtpminhafljlldaaDoorDValLaw
import Derived.Test.YtpminhafljlldaaDoorQOpenD
import Derived.Test.YtpminhafljlldaaDoorQLaid
import Derived.Test.YtpminhafljlldaaDoorRows
import Derived.Test.YtpminhafljlldaaDoorTie
import Derived.Test.YtpminhafljlldaaDoorCards
import Derived.SevenTiedAt
import Derived.ProofKit
import Derived.LaidMore
import Derived.OpenShut
import Derived.Stop.Joined
import Derived.SizedLaws
import Derived.Deep.Grids
namespace Go.Proofs.YtpminhafljlldaaDoor
open Go.ChangeShapes Go.WideShapes Go.ChangeAt Go.WideMaps Go.WideElems Go.RowKit Go.Deep

theorem ownK : ownKnob Tryd.prog.godebug = none := by kernel_rfl
theorem laidOutP : laidOutB Tryd.prog = true := by kernel_rfl
theorem rulesValid_met (os : Os) (args : Array Value) : laidMetH Tryd.prog Rows.rulesValidRow.laid ((World.doorLaid Tryd.prog 400 os).forCall (fun _ _ => 0) ⟨#[], args, []⟩).memory :=
  laidMetH_of_parts3 (fuel := 8) (laidMet_of_run' 8 (by kernel_rfl) (by kernel_rfl)) (by kernel_rfl) (by kernel_rfl)
set_option maxRecDepth 100000 in
theorem rulesValid_lifted (os : Os) (started : os.Started) (H : Type) (enc : TypeId × Value → H) :
    ReturnsInHanded {} Tryd.checked os 3 .any (fun w args => (Rows.rulesValidSpec.pre enc Tryd.prog Tryd.f3 [] false w args ∧ laidMetH Tryd.prog Rows.rulesValidRow.laid w) ∧ sizedMet enc Tryd.prog Tryd.f3 (OpenSpec.ofChange Rows.rulesValidSpec) false w args)
      (Rows.rulesValidSpec.post enc Tryd.prog Tryd.f3 false true false false) := by
  refine returnsInHanded_of_change_and (C := Tryd.checked) (X := fun w _ => laidMetH Tryd.prog Rows.rulesValidRow.laid w) (fun _ _ _ hh h => h.of_heap hh) ownK started (by kernel_rfl) Tryd.func3
    (ChangeSpec.witness_shaped (enc := enc) (C := Tryd.checked) (os := os) (X := fun w _ => laidMetH Tryd.prog Rows.rulesValidRow.laid w) false (World.doorLaid Tryd.prog 400 os) #[.agg #[.slice none 0 0, .slice none 0 0, .slice none 0 0, .slice none 0 0]] 8 rfl (World.shaped_of_RefB (by kernel_rfl) (by kernel_rfl)) (by kernel_rfl) (by kernel_rfl) (by kernel_rfl) (rulesValid_met os _)) ?_
  intro W base args ds gs before hval0 hW _ hsz hL _
  have hval : ∀ (j : Nat) t v, Tryd.f3.params[j]? = some t → args[j]? = some v → Value.okWide Tryd.prog W .any base t v := hval0
  have hW' := hW
  obtain ⟨p, q, hA0, hV, rfl, hfz, hnd⟩ := hW
  have hA : DataW.TrodAll enc Tryd.prog W 0 (fun _ => true) true Tryd.f3.params.toList args.toList ds p := hA0
  rw [Tryd.params3] at hA hval
  obtain ⟨v0, vs0, d0, ds0, p0, q0, hargs, rfl, rfl, h0, r0⟩ := trodAll_cons hA
  obtain ⟨rfl, rfl, rfl⟩ := trodAll_nil r0
  obtain rfl : args = #[v0] := by cases args; simp_all
  obtain ⟨rfl, rfl⟩ := trodVars_none hV
  obtain ⟨cs0, rfl, _⟩ := okWide_struct Tryd.underlying26 (hval 0 26 v0 rfl rfl)
  have k0 := h0
  have lt0 : ∀ y ∈ p0, y.block < W.heap.size := by obtain ⟨m, hm⟩ := k0; exact DataW.trod_lt m _ _ _ hm
  obtain ⟨fuel0, hf0⟩ := h0
  have hr0 : InReach Tryd.prog 26 d0 := fun q hq => by
    have := List.all_eq_true.1 hsz q (DataW.weights_mem_each (j := 0) (t := 26) (d := d0) (by rw [Tryd.params3]; rfl) rfl q hq)
    simpa using this
  have hq0 := q_choice hf0 hr0 lt0
  obtain ⟨xa, xo, xb, xd, xc, xoc, xe, xdc, xl, xon, xch, xds, e0, hs0⟩ := hq0
  simp [Value.cells] at e0
  obtain rfl : cs0 = #[.slice xa xl.length xc, .slice xo xon.length xoc, .slice xb xch.length xe, .slice xd xds.length xdc] := by cases cs0; simp_all
  clear hA0 hval0
  obtain ⟨A, hAne, hAt⟩ := errs_many Rows.rulesValidRow.laid hL rfl rfl (by kernel_rfl)
  have hERange := (hAt 0 _ 9 rfl (by kernel_rfl)).cell
  refine (validLaw (A 0) xa xo xb xd xc xoc xe xdc xl xon xch xds W hs0 hERange).mono fun e W' ⟨he, bel⟩ => ?_
  subst he
  exact ⟨_, rfl, _, _, _, [], _, [], hW', trodAll_mk1 (shut_bool Tryd.underlying4 _), (trodAll_cons_mk (Below.trod laidOutP (by kernel_rfl) (of_decide_eq_true (by kernel_rfl)) k0 bel lt0) trodAll_mk0), rfl, bel.frame _, fun h => by cases h⟩

theorem rulesValid_holds : Rows.RulesValidSaid :=
  OpenClaim.holds_of_wide 3 Tryd.f3 rfl rfl rfl rfl rfl rfl rfl ⟨rfl, rfl, rfl, rfl, rfl⟩ rfl rfl rfl rfl rfl (by kernel_rfl) Tryd.func3 (by kernel_rfl)
    (of_decide_eq_true (by kernel_rfl)) (by unfold Func.isWrapper; first | (rw [if_pos (by decide +kernel)]; kernel_rfl) | (rw [if_neg (by decide +kernel)]; exact ⟨rfl, rfl⟩))
    (fun os started H enc _ => rulesValid_lifted os started H enc)
theorem rulesValid_card : Rows.RulesValidCardSaid :=
  Claim7.holds_tied_plain_at .later [] [.sentinel] true Rows.rulesValidCard.stood.harness true
    rulesValid_holds (fun _ h => by cases h) (by kernel_rfl) (fun _ h => by cases h) rulesValid_row_tie rfl ⟨rfl, rfl⟩ (by kernel_rfl) rfl
    (fun f fn hf hfn => by
      obtain rfl : f = 3 := Option.some.inj ((show Tryd.prog.funcNamed Rows.rulesValidRow.func = some 3 by kernel_rfl).symm.trans hf) |>.symm
      obtain rfl : fn = Tryd.f3 := (Option.some.inj (Tryd.func3.symm.trans hfn)).symm
      exact ⟨by kernel_rfl, fun j t ht => by
        rw [Tryd.params3] at ht
        rcases j with _ | j
        · have h3 : t = 26 := by simpa using ht.symm
          subst h3; exact (show Tryd.prog.wantsStandIn 26 = false by kernel_rfl)
        · simp at ht⟩)
    (by kernel_rfl)
#print axioms rulesValid_card
end Go.Proofs.YtpminhafljlldaaDoor

/- CnfGates: for every number and every list of operations the law returns true, and its arguments read as they did. -/
import Derived.Test.YtdppmmimemmedaaDoorGatesLaw
import Derived.Test.YtdppmmimemmedaaDoorOpRead
import Derived.Test.YtdppmmimemmedaaDoorLaid
import Derived.Test.YtdppmmimemmedaaDoorRows
import Derived.Test.YtdppmmimemmedaaDoorTie
import Derived.Test.YtdppmmimemmedaaDoorCards
import Derived.SevenTiedAt
import Derived.ProofKit
import Derived.LaidMore
import Derived.OpenShut
import Derived.Stop.Joined
import Derived.Deep.Grids
import Derived.SizedLaws
namespace Go.Proofs.YtdppmmimemmedaaDoor
open Go.ChangeShapes Go.WideShapes Go.ChangeAt Go.WideMaps Go.WideElems Go.RowKit Go.Deep

theorem ownK : ownKnob Tryd.prog.godebug = none := by kernel_rfl
theorem laidOutP : laidOutB Tryd.prog = true := by kernel_rfl
theorem range_of_laid {W : World} (h : laidMetH Tryd.prog Rows.cnfGatesRow.laid W) : ∃ ea, W.cell? ⟨1, 0, none⟩ = some (.iface 153 (.pointer (some ea))) := by
  obtain ⟨A, _, h2⟩ := errs_many Rows.cnfGatesRow.laid h rfl rfl (by kernel_rfl)
  exact ⟨A 0, (h2 0 _ 1 rfl (by kernel_rfl)).cell⟩
theorem gates_met (os : Os) (args : Array Value) : laidMetH Tryd.prog Rows.cnfGatesRow.laid ((World.doorLaid Tryd.prog 400 os).forCall (fun _ _ => 0) ⟨#[], args, []⟩).memory :=
  laidMetH_of_parts3 (fuel := 8) (laidMet_of_run' 8 (by kernel_rfl) (by kernel_rfl)) (by kernel_rfl) (by kernel_rfl)
set_option maxRecDepth 100000 in
theorem gates_lifted (os : Os) (started : os.Started) (H : Type) (enc : TypeId × Value → H) :
    ReturnsInHanded {} Tryd.checked os 3 .any (fun w args => (Rows.cnfGatesSpec.pre enc Tryd.prog Tryd.f3 [] false w args ∧ laidMetH Tryd.prog Rows.cnfGatesRow.laid w) ∧ sizedMet enc Tryd.prog Tryd.f3 (OpenSpec.ofChange Rows.cnfGatesSpec) false w args)
      (Rows.cnfGatesSpec.post enc Tryd.prog Tryd.f3 false true false false) := by
  refine returnsInHanded_of_change_and (C := Tryd.checked) (X := fun w _ => laidMetH Tryd.prog Rows.cnfGatesRow.laid w) (fun _ _ _ hh h => h.of_heap hh) ownK started (by kernel_rfl) Tryd.func3
    (ChangeSpec.witness_shaped (enc := enc) (C := Tryd.checked) (os := os) (X := fun w _ => laidMetH Tryd.prog Rows.cnfGatesRow.laid w) false (World.doorLaid Tryd.prog 400 os) #[.int .i64 0, .slice none 0 0] 8 rfl (World.shaped_of_RefB (by kernel_rfl) (by kernel_rfl)) (by kernel_rfl) (by kernel_rfl) (by kernel_rfl) (gates_met os _)) ?_
  intro W base args ds gs before hval0 hW _ hsz hL _
  have hval : ∀ (j : Nat) t v, Tryd.f3.params[j]? = some t → args[j]? = some v → Value.okWide Tryd.prog W .any base t v := hval0
  have hW' := hW
  obtain ⟨p, q, hA0, hV, rfl, hfz, hnd⟩ := hW
  have hA : DataW.TrodAll enc Tryd.prog W 0 (fun _ => true) true Tryd.f3.params.toList args.toList ds p := hA0
  rw [Tryd.params3] at hA hval
  obtain ⟨v0, v1, d0, d1, p0, p1, hargs, rfl, rfl, h0, h1⟩ := trodAll_two hA
  obtain rfl : args = #[v0, v1] := by cases args; simp_all
  obtain ⟨rfl, rfl⟩ := trodVars_none hV
  obtain ⟨x, rfl, rfl, rfl, wx⟩ := open_int Tryd.underlying3 (hval 0 3 v0 rfl rfl) h0
  obtain ⟨a1, len1, cap1, rfl⟩ := okWide_slice Tryd.underlying22 (hval 1 22 v1 rfl rfl)
  have k1 := h1
  have lt1 : ∀ y ∈ p1, y.block < W.heap.size := by obtain ⟨m, hm⟩ := k1; exact DataW.trod_lt m _ _ _ hm
  obtain ⟨os2, hsl, hss⟩ : ∃ os2 : List (Int × Int × List Int), os2.length = len1 ∧ Ops W a1 os2 := by
    obtain ⟨fuel, hf⟩ := h1
    exact ops_open (by simpa [Value.cells] using hf) (fun q hq => by
      have := List.all_eq_true.1 hsz q (DataW.weights_mem_each (j := 1) (t := 22) (d := d1) (by rw [Tryd.params3]; rfl) rfl q hq)
      simpa using this) lt1
  subst hsl
  clear hA0 hval0
  have hx64 : I64 x := by
    have := bounds_i64 wx
    exact ⟨by omega, by omega⟩
  obtain ⟨ea, hE⟩ := range_of_laid hL
  refine (gatesLaw x a1 cap1 os2 ea W hx64 hss hE).mono fun e W' ⟨he, bel⟩ => ?_
  subst he
  exact ⟨_, rfl, _, _, _, [], _, [], hW', trodAll_mk1 (shut_bool Tryd.underlying4 _), (trodAll_cons_mk (shut_int Tryd.underlying3 wx) (trodAll_cons_mk (Below.trod laidOutP (by kernel_rfl) (of_decide_eq_true (by kernel_rfl)) k1 bel lt1) trodAll_mk0)), rfl, bel.frame _, fun h => by cases h⟩

theorem gates_holds : Rows.CnfGatesSaid :=
  OpenClaim.holds_of_wide 3 Tryd.f3 rfl rfl rfl rfl rfl rfl rfl ⟨rfl, rfl, rfl, rfl, rfl⟩ rfl rfl rfl rfl rfl (by kernel_rfl) Tryd.func3 (by kernel_rfl)
    (of_decide_eq_true (by kernel_rfl)) (by unfold Func.isWrapper; first | (rw [if_pos (by decide +kernel)]; kernel_rfl) | (rw [if_neg (by decide +kernel)]; exact ⟨rfl, rfl⟩))
    (fun os started H enc _ => gates_lifted os started H enc)
theorem cnfGates_card : Rows.CnfGatesCardSaid :=
  Claim7.holds_tied_plain_at .later [] [.sentinel, .sentinel] true Rows.cnfGatesCard.stood.harness true
    gates_holds (fun _ h => by cases h) (by kernel_rfl) (fun _ h => by cases h) cnfGates_row_tie rfl ⟨rfl, rfl⟩ (by kernel_rfl) rfl
    (fun f fn hf hfn => by
      obtain rfl : f = 3 := Option.some.inj ((show Tryd.prog.funcNamed Rows.cnfGatesRow.func = some 3 by kernel_rfl).symm.trans hf) |>.symm
      obtain rfl : fn = Tryd.f3 := (Option.some.inj (Tryd.func3.symm.trans hfn)).symm
      exact ⟨by kernel_rfl, fun j t ht => by
        rw [Tryd.params3] at ht
        rcases j with _ | _ | j
        · have h3 : t = 3 := by simpa using ht.symm
          subst h3; exact (show Tryd.prog.wantsStandIn 3 = false by kernel_rfl)
        · have h3 : t = 22 := by simpa using ht.symm
          subst h3; exact (show Tryd.prog.wantsStandIn 22 = false by kernel_rfl)
        · simp at ht⟩)
    (by kernel_rfl)
#print axioms cnfGates_card
end Go.Proofs.YtdppmmimemmedaaDoor

/- CnfPlays: for all arguments the law returns true, and its arguments read as they did. -/
import Derived.Test.YtgpifbhfnbkgoaaDoorPlAll
import Derived.Test.YtgpifbhfnbkgoaaDoorPlRead
import Derived.Test.YtgpifbhfnbkgoaaDoorLaidM
import Derived.Test.YtgpifbhfnbkgoaaDoorRows
import Derived.Test.YtgpifbhfnbkgoaaDoorTie
import Derived.Test.YtgpifbhfnbkgoaaDoorCards
import Derived.SevenTiedAt
import Derived.ProofKit
import Derived.LaidMore
import Derived.OpenShut
import Derived.Stop.Joined
import Derived.SizedLaws
namespace Go.Proofs.YtgpifbhfnbkgoaaDoor
open Go.ChangeShapes Go.WideShapes Go.ChangeAt Go.WideMaps Go.WideElems Go.RowKit Go.Deep

theorem ownK : ownKnob Tryd.prog.godebug = none := by kernel_rfl
theorem laidOutP : laidOutB Tryd.prog = true := by kernel_rfl
theorem errs_of_laid {W : World} (h : laidMetH Tryd.prog Rows.cnfPlaysRow.laid W) : ∃ A, Errs W A := by
  obtain ⟨A, h1, h2⟩ := errs_many Rows.cnfPlaysRow.laid h rfl rfl (by kernel_rfl)
  refine ⟨A, fun i g hg => ?_, fun i j hi hj e => h1 i j hi hj e⟩
  have hi : i < 13 := by
    rcases Nat.lt_or_ge i 13 with h' | h'
    · exact h'
    · rw [List.getElem?_eq_none (by simpa [errG] using h')] at hg; cases hg
  have key : ∀ i : Fin 13, ∃ n g, (named Rows.cnfPlaysRow.laid)[i.1]? = some n ∧ errG[i.1]? = some g ∧ Tryd.prog.globalNamed n.1 = some g := by
    intro i
    match i with
    | ⟨0, _⟩ => exact ⟨_, _, rfl, rfl, by kernel_rfl⟩
    | ⟨1, _⟩ => exact ⟨_, _, rfl, rfl, by kernel_rfl⟩
    | ⟨2, _⟩ => exact ⟨_, _, rfl, rfl, by kernel_rfl⟩
    | ⟨3, _⟩ => exact ⟨_, _, rfl, rfl, by kernel_rfl⟩
    | ⟨4, _⟩ => exact ⟨_, _, rfl, rfl, by kernel_rfl⟩
    | ⟨5, _⟩ => exact ⟨_, _, rfl, rfl, by kernel_rfl⟩
    | ⟨6, _⟩ => exact ⟨_, _, rfl, rfl, by kernel_rfl⟩
    | ⟨7, _⟩ => exact ⟨_, _, rfl, rfl, by kernel_rfl⟩
    | ⟨8, _⟩ => exact ⟨_, _, rfl, rfl, by kernel_rfl⟩
    | ⟨9, _⟩ => exact ⟨_, _, rfl, rfl, by kernel_rfl⟩
    | ⟨10, _⟩ => exact ⟨_, _, rfl, rfl, by kernel_rfl⟩
    | ⟨11, _⟩ => exact ⟨_, _, rfl, rfl, by kernel_rfl⟩
    | ⟨12, _⟩ => exact ⟨_, _, rfl, rfl, by kernel_rfl⟩
  obtain ⟨n, g', k1, k2, k3⟩ := key ⟨i, hi⟩
  have : g' = g := Option.some.inj (k2.symm.trans hg)
  subst this
  exact h2 i n g' k1 k3
theorem cnfPlays_met (os : Os) (args : Array Value) : laidMetH Tryd.prog Rows.cnfPlaysRow.laid ((World.doorLaid Tryd.prog 400 os).forCall (fun _ _ => 0) ⟨#[], args, []⟩).memory :=
  laidMetH_of_parts3 (fuel := 8) (laidMet_of_run' 8 (by kernel_rfl) (by kernel_rfl)) (by kernel_rfl) (by kernel_rfl)
set_option maxRecDepth 100000 in
theorem cnfPlays_lifted (os : Os) (started : os.Started) (H : Type) (enc : TypeId × Value → H) :
    ReturnsInHanded {} Tryd.checked os 3 .any (fun w args => (Rows.cnfPlaysSpec.pre enc Tryd.prog Tryd.f3 [] false w args ∧ laidMetH Tryd.prog Rows.cnfPlaysRow.laid w) ∧ sizedMet enc Tryd.prog Tryd.f3 (OpenSpec.ofChange Rows.cnfPlaysSpec) false w args)
      (Rows.cnfPlaysSpec.post enc Tryd.prog Tryd.f3 false true false false) := by
  refine returnsInHanded_of_change_and (C := Tryd.checked) (X := fun w _ => laidMetH Tryd.prog Rows.cnfPlaysRow.laid w) (fun _ _ _ hh h => h.of_heap hh) ownK started (by kernel_rfl) Tryd.func3
    (ChangeSpec.witness_shaped (enc := enc) (C := Tryd.checked) (os := os) (X := fun w _ => laidMetH Tryd.prog Rows.cnfPlaysRow.laid w) false (World.doorLaid Tryd.prog 400 os) #[.slice none 0 0] 8 rfl (World.shaped_of_RefB (by kernel_rfl) (by kernel_rfl)) (by kernel_rfl) (by kernel_rfl) (by kernel_rfl) (cnfPlays_met os _)) ?_
  intro W base args ds gs before hval0 hW _ hsz hL _
  have hval : ∀ (j : Nat) t v, Tryd.f3.params[j]? = some t → args[j]? = some v → Value.okWide Tryd.prog W .any base t v := hval0
  have hW' := hW
  obtain ⟨p, q, hA0, hV, rfl, hfz, hnd⟩ := hW
  have hA : DataW.TrodAll enc Tryd.prog W 0 (fun _ => true) true Tryd.f3.params.toList args.toList ds p := hA0
  rw [Tryd.params3] at hA hval
  obtain ⟨v0, vs0, d0, ds0, p0, q0, hargs, rfl, rfl, h0, r0⟩ := trodAll_cons hA
  obtain ⟨rfl, rfl, rfl⟩ := trodAll_nil r0
  obtain rfl : args = #[v0] := by cases args; simp_all
  obtain ⟨rfl, rfl⟩ := trodVars_none hV
  obtain ⟨a0, len0, cap0, rfl⟩ := okWide_slice Tryd.underlying22 (hval 0 22 v0 rfl rfl)
  have k0 := h0
  have lt0 : ∀ y ∈ p0, y.block < W.heap.size := by obtain ⟨m, hm⟩ := k0; exact DataW.trod_lt m _ _ _ hm
  obtain ⟨z0, hl0, hs0, hc0, hn0⟩ : ∃ zs : List (Int × Int × List Int), zs.length = len0 ∧ OpsI W a0 zs ∧ zs.length ≤ cap0 ∧ (a0 = none → cap0 = 0) := by
    obtain ⟨fuel, hf⟩ := h0
    exact opsI_open (by simpa [Value.cells] using hf) (fun q hq => by
      have := List.all_eq_true.1 hsz q (DataW.weights_mem_each (j := 0) (t := 22) (d := d0) (by rw [Tryd.params3]; rfl) rfl q hq)
      simpa using this) lt0
  subst hl0
  clear hA0 hval0
  obtain ⟨A, hE⟩ := errs_of_laid hL
  refine (playsLaw a0 cap0 z0 A W hs0.1 hs0.2 hE).mono fun e W' ⟨he, bel⟩ => ?_
  subst he
  exact ⟨_, rfl, _, _, _, [], _, [], hW', trodAll_mk1 (shut_bool Tryd.underlying4 _), (trodAll_cons_mk (Below.trod laidOutP (by kernel_rfl) (of_decide_eq_true (by kernel_rfl)) k0 bel lt0) trodAll_mk0), rfl, bel.frame _, fun h => by cases h⟩

theorem cnfPlays_holds : Rows.CnfPlaysSaid :=
  OpenClaim.holds_of_wide 3 Tryd.f3 rfl rfl rfl rfl rfl rfl rfl ⟨rfl, rfl, rfl, rfl, rfl⟩ rfl rfl rfl rfl rfl (by kernel_rfl) Tryd.func3 (by kernel_rfl)
    (of_decide_eq_true (by kernel_rfl)) (by unfold Func.isWrapper; first | (rw [if_pos (by decide +kernel)]; kernel_rfl) | (rw [if_neg (by decide +kernel)]; exact ⟨rfl, rfl⟩))
    (fun os started H enc _ => cnfPlays_lifted os started H enc)
theorem cnfPlays_card : Rows.CnfPlaysCardSaid :=
  Claim7.holds_tied_plain_at .later [] [.sentinel, .sentinel, .sentinel, .sentinel, .sentinel, .sentinel, .sentinel, .sentinel, .sentinel, .sentinel, .sentinel, .sentinel, .sentinel] true Rows.cnfPlaysCard.stood.harness true
    cnfPlays_holds (fun _ h => by cases h) (by kernel_rfl) (fun _ h => by cases h) cnfPlays_row_tie rfl ⟨rfl, rfl⟩ (by kernel_rfl) rfl
    (fun f fn hf hfn => by
      obtain rfl : f = 3 := Option.some.inj ((show Tryd.prog.funcNamed Rows.cnfPlaysRow.func = some 3 by kernel_rfl).symm.trans hf) |>.symm
      obtain rfl : fn = Tryd.f3 := (Option.some.inj (Tryd.func3.symm.trans hfn)).symm
      exact ⟨by kernel_rfl, fun j t ht => by
        rw [Tryd.params3] at ht
        rcases j with _ | j
        · have h3 : t = 22 := by simpa using ht.symm
          subst h3; exact (show Tryd.prog.wantsStandIn 22 = false by kernel_rfl)
        · simp at ht⟩)
    (by kernel_rfl)
#print axioms cnfPlays_card
end Go.Proofs.YtgpifbhfnbkgoaaDoor

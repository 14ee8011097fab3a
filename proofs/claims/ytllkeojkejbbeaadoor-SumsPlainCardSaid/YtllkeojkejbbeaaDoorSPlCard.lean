/- SumsPlain: for all arguments the law returns true, and its arguments read as they did. -/
import Derived.Test.YtllkeojkejbbeaaDoorSPlain
import Derived.Test.YtllkeojkejbbeaaDoorAlive16
import Derived.Test.YtllkeojkejbbeaaDoorSRead
import Derived.Test.YtllkeojkejbbeaaDoorLaidM
import Derived.Test.YtllkeojkejbbeaaDoorRows
import Derived.Test.YtllkeojkejbbeaaDoorTie
import Derived.Test.YtllkeojkejbbeaaDoorCards
import Derived.SevenTiedAt
import Derived.ProofKit
import Derived.LaidMore
import Derived.OpenShut
import Derived.Stop.Joined
import Derived.SizedLaws
namespace Go.Proofs.YtllkeojkejbbeaaDoor
open Go.ChangeShapes Go.WideShapes Go.ChangeAt Go.WideMaps Go.WideElems Go.RowKit Go.Deep

theorem ownK : ownKnob Tryd.prog.godebug = none := by kernel_rfl
theorem laidOutP : laidOutB Tryd.prog = true := by kernel_rfl
theorem sumsPlain_met (os : Os) (args : Array Value) : laidMetH Tryd.prog Rows.sumsPlainRow.laid ((World.doorLaid Tryd.prog 400 os).forCall (fun _ _ => 0) ⟨#[], args, []⟩).memory :=
  laidMetH_of_parts3 (fuel := 8) (laidMet_of_run' 8 (by kernel_rfl) (by kernel_rfl)) (by kernel_rfl) (by kernel_rfl)
set_option maxRecDepth 100000 in
theorem sumsPlain_lifted (os : Os) (started : os.Started) (H : Type) (enc : TypeId × Value → H) :
    ReturnsInHanded {} Tryd.checked os 4 .any (fun w args => (Rows.sumsPlainSpec.pre enc Tryd.prog Tryd.f4 [] false w args ∧ laidMetH Tryd.prog Rows.sumsPlainRow.laid w) ∧ sizedMet enc Tryd.prog Tryd.f4 (OpenSpec.ofChange Rows.sumsPlainSpec) false w args)
      (Rows.sumsPlainSpec.post enc Tryd.prog Tryd.f4 false true false false) := by
  refine returnsInHanded_of_change_and (C := Tryd.checked) (X := fun w _ => laidMetH Tryd.prog Rows.sumsPlainRow.laid w) (fun _ _ _ hh h => h.of_heap hh) ownK started (by kernel_rfl) Tryd.func4
    (ChangeSpec.witness_shaped (enc := enc) (C := Tryd.checked) (os := os) (X := fun w _ => laidMetH Tryd.prog Rows.sumsPlainRow.laid w) false (World.doorLaid Tryd.prog 400 os) #[.slice none 0 0, .slice none 0 0] 8 rfl (World.shaped_of_RefB (by kernel_rfl) (by kernel_rfl)) (by kernel_rfl) (by kernel_rfl) (by kernel_rfl) (sumsPlain_met os _)) ?_
  intro W base args ds gs before hval0 hW _ hsz hL _
  have hval : ∀ (j : Nat) t v, Tryd.f4.params[j]? = some t → args[j]? = some v → Value.okWide Tryd.prog W .any base t v := hval0
  have hW' := hW
  obtain ⟨p, q, hA0, hV, rfl, hfz, hnd⟩ := hW
  have hA : DataW.TrodAll enc Tryd.prog W 0 (fun _ => true) true Tryd.f4.params.toList args.toList ds p := hA0
  rw [Tryd.params4] at hA hval
  obtain ⟨v0, vs0, d0, ds0, p0, q0, hargs, rfl, rfl, h0, r0⟩ := trodAll_cons hA
  obtain ⟨v1, vs1, d1, ds1, p1, q1, rfl, rfl, rfl, h1, r1⟩ := trodAll_cons r0
  obtain ⟨rfl, rfl, rfl⟩ := trodAll_nil r1
  obtain rfl : args = #[v0, v1] := by cases args; simp_all
  obtain ⟨rfl, rfl⟩ := trodVars_none hV
  obtain ⟨a0, len0, cap0, rfl⟩ := okWide_slice Tryd.underlying54 (hval 0 54 v0 rfl rfl)
  have k0 := h0
  have lt0 : ∀ y ∈ p0, y.block < W.heap.size := by obtain ⟨m, hm⟩ := k0; exact DataW.trod_lt m _ _ _ hm
  obtain ⟨z0, hl0, hs0, hc0, hn0⟩ : ∃ zs : List Bool, zs.length = len0 ∧ Bools W a0 zs ∧ zs.length ≤ cap0 ∧ (a0 = none → cap0 = 0) := by
    obtain ⟨fuel, hf⟩ := h0
    exact bools_open (by simpa [Value.cells] using hf) (fun q hq => by
      have := List.all_eq_true.1 hsz q (DataW.weights_mem_each (j := 0) (t := 54) (d := d0) (by rw [Tryd.params4]; rfl) rfl q hq)
      simpa using this) lt0
  subst hl0
  obtain ⟨a1, len1, cap1, rfl⟩ := okWide_slice Tryd.underlying54 (hval 1 54 v1 rfl rfl)
  have k1 := h1
  have lt1 : ∀ y ∈ p1, y.block < W.heap.size := by obtain ⟨m, hm⟩ := k1; exact DataW.trod_lt m _ _ _ hm
  obtain ⟨z1, hl1, hs1, hc1, hn1⟩ : ∃ zs : List Bool, zs.length = len1 ∧ Bools W a1 zs ∧ zs.length ≤ cap1 ∧ (a1 = none → cap1 = 0) := by
    obtain ⟨fuel, hf⟩ := h1
    exact bools_open (by simpa [Value.cells] using hf) (fun q hq => by
      have := List.all_eq_true.1 hsz q (DataW.weights_mem_each (j := 1) (t := 54) (d := d1) (by rw [Tryd.params4]; rfl) rfl q hq)
      simpa using this) lt1
  subst hl1
  clear hA0 hval0
  obtain ⟨A, hAne, hAt⟩ := errs_many Rows.sumsPlainRow.laid hL rfl rfl (by kernel_rfl)
  have hERange := (hAt 0 _ 9 rfl (by kernel_rfl)).cell
  have hELimit := (hAt 1 _ 11 rfl (by kernel_rfl)).cell
  refine (plainLaw alive16 a0 cap0 z0 a1 cap1 z1 W hs0 hs1).mono fun e W' ⟨he, bel⟩ => ?_
  subst he
  exact ⟨_, rfl, _, _, _, [], _, [], hW', trodAll_mk1 (shut_bool Tryd.underlying4 _), (trodAll_cons_mk (Below.trod laidOutP (by kernel_rfl) (of_decide_eq_true (by kernel_rfl)) k0 bel lt0) (trodAll_cons_mk (Below.trod laidOutP (by kernel_rfl) (of_decide_eq_true (by kernel_rfl)) k1 bel lt1) trodAll_mk0)), rfl, bel.frame _, fun h => by cases h⟩

theorem sumsPlain_holds : Rows.SumsPlainSaid :=
  OpenClaim.holds_of_wide 4 Tryd.f4 rfl rfl rfl rfl rfl rfl rfl ⟨rfl, rfl, rfl, rfl, rfl⟩ rfl rfl rfl rfl rfl (by kernel_rfl) Tryd.func4 (by kernel_rfl)
    (of_decide_eq_true (by kernel_rfl)) (by unfold Func.isWrapper; first | (rw [if_pos (by decide +kernel)]; kernel_rfl) | (rw [if_neg (by decide +kernel)]; exact ⟨rfl, rfl⟩))
    (fun os started H enc _ => sumsPlain_lifted os started H enc)
theorem sumsPlain_card : Rows.SumsPlainCardSaid :=
  Claim7.holds_tied_plain_at .later [] [.sentinel, .sentinel] true Rows.sumsPlainCard.stood.harness true
    sumsPlain_holds (fun _ h => by cases h) (by kernel_rfl) (fun _ h => by cases h) sumsPlain_row_tie rfl ⟨rfl, rfl⟩ (by kernel_rfl) rfl
    (fun f fn hf hfn => by
      obtain rfl : f = 4 := Option.some.inj ((show Tryd.prog.funcNamed Rows.sumsPlainRow.func = some 4 by kernel_rfl).symm.trans hf) |>.symm
      obtain rfl : fn = Tryd.f4 := (Option.some.inj (Tryd.func4.symm.trans hfn)).symm
      exact ⟨by kernel_rfl, fun j t ht => by
        rw [Tryd.params4] at ht
        rcases j with _ | _ | j
        · have h3 : t = 54 := by simpa using ht.symm
          subst h3; exact (show Tryd.prog.wantsStandIn 54 = false by kernel_rfl)
        · have h3 : t = 54 := by simpa using ht.symm
          subst h3; exact (show Tryd.prog.wantsStandIn 54 = false by kernel_rfl)
        · simp at ht⟩)
    (by kernel_rfl)
#print axioms sumsPlain_card
end Go.Proofs.YtllkeojkejbbeaaDoor

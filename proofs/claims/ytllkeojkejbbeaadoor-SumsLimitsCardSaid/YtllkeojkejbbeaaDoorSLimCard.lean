/- SumsLimits: for all arguments the law returns true, and its arguments read as they did. -/
import Derived.Test.YtllkeojkejbbeaaDoorSLimLaw
import Derived.Test.YtllkeojkejbbeaaDoorAlive16
import Derived.Test.YtllkeojkejbbeaaDoorSRead
import Derived.Test.YtllkeojkejbbeaaDoorLaidM
import Derived.Test.YtllkeojkejbbeaaDoorRows
import Derived.Test.YtllkeojkejbbeaaDoorTie
import Derived.Test.YtllkeojkejbbeaaDoorCards
import Derived.SevenTiedAt
import Derived.ProofKit
import Derived.LaidMore
import Derived.OpenShut
import Derived.Stop.Joined
import Derived.SizedLaws
namespace Go.Proofs.YtllkeojkejbbeaaDoor
open Go.ChangeShapes Go.WideShapes Go.ChangeAt Go.WideMaps Go.WideElems Go.RowKit Go.Deep

theorem ownK : ownKnob Tryd.prog.godebug = none := by kernel_rfl
theorem laidOutP : laidOutB Tryd.prog = true := by kernel_rfl
theorem errs_of_laid {W : World} (h : laidMetH Tryd.prog Rows.sumsLimitsRow.laid W) : ∃ A, Errs W A := by
  obtain ⟨A, h1, h2⟩ := errs_many Rows.sumsLimitsRow.laid h rfl rfl (by kernel_rfl)
  refine ⟨A, fun i g hg => ?_, fun i j hi hj e => h1 i j hi hj e⟩
  have hi : i < 13 := by
    rcases Nat.lt_or_ge i 13 with h' | h'
    · exact h'
    · rw [List.getElem?_eq_none (by simpa [errG] using h')] at hg; cases hg
  have key : ∀ i : Fin 13, ∃ n g, (named Rows.sumsLimitsRow.laid)[i.1]? = some n ∧ errG[i.1]? = some g ∧ Tryd.prog.globalNamed n.1 = some g := by
    intro i
    match i with
    | ⟨0, _⟩ => exact ⟨_, _, rfl, rfl, by kernel_rfl⟩
    | ⟨1, _⟩ => exact ⟨_, _, rfl, rfl, by kernel_rfl⟩
    | ⟨2, _⟩ => exact ⟨_, _, rfl, rfl, by kernel_rfl⟩
    | ⟨3, _⟩ => exact ⟨_, _, rfl, rfl, by kernel_rfl⟩
    | ⟨4, _⟩ => exact ⟨_, _, rfl, rfl, by kernel_rfl⟩
    | ⟨5, _⟩ => exact ⟨_, _, rfl, rfl, by kernel_rfl⟩
    | ⟨6, _⟩ => exact ⟨_, _, rfl, rfl, by kernel_rfl⟩
    | ⟨7, _⟩ => exact ⟨_, _, rfl, rfl, by kernel_rfl⟩
    | ⟨8, _⟩ => exact ⟨_, _, rfl, rfl, by kernel_rfl⟩
    | ⟨9, _⟩ => exact ⟨_, _, rfl, rfl, by kernel_rfl⟩
    | ⟨10, _⟩ => exact ⟨_, _, rfl, rfl, by kernel_rfl⟩
    | ⟨11, _⟩ => exact ⟨_, _, rfl, rfl, by kernel_rfl⟩
    | ⟨12, _⟩ => exact ⟨_, _, rfl, rfl, by kernel_rfl⟩
  obtain ⟨n, g', k1, k2, k3⟩ := key ⟨i, hi⟩
  have : g' = g := Option.some.inj (k2.symm.trans hg)
  subst this
  exact h2 i n g' k1 k3
theorem sumsLimits_met (os : Os) (args : Array Value) : laidMetH Tryd.prog Rows.sumsLimitsRow.laid ((World.doorLaid Tryd.prog 400 os).forCall (fun _ _ => 0) ⟨#[], args, []⟩).memory :=
  laidMetH_of_parts3 (fuel := 8) (laidMet_of_run' 8 (by kernel_rfl) (by kernel_rfl)) (by kernel_rfl) (by kernel_rfl)
set_option maxRecDepth 100000 in
theorem sumsLimits_lifted (os : Os) (started : os.Started) (H : Type) (enc : TypeId × Value → H) :
    ReturnsInHanded {} Tryd.checked os 9 .any (fun w args => (Rows.sumsLimitsSpec.pre enc Tryd.prog Tryd.f9 [] false w args ∧ laidMetH Tryd.prog Rows.sumsLimitsRow.laid w) ∧ sizedMet enc Tryd.prog Tryd.f9 (OpenSpec.ofChange Rows.sumsLimitsSpec) false w args)
      (Rows.sumsLimitsSpec.post enc Tryd.prog Tryd.f9 false true false false) := by
  refine returnsInHanded_of_change_and (C := Tryd.checked) (X := fun w _ => laidMetH Tryd.prog Rows.sumsLimitsRow.laid w) (fun _ _ _ hh h => h.of_heap hh) ownK started (by kernel_rfl) Tryd.func9
    (ChangeSpec.witness_shaped (enc := enc) (C := Tryd.checked) (os := os) (X := fun w _ => laidMetH Tryd.prog Rows.sumsLimitsRow.laid w) false (World.doorLaid Tryd.prog 400 os) #[.int .i64 0, .slice none 0 0, .slice none 0 0] 8 rfl (World.shaped_of_RefB (by kernel_rfl) (by kernel_rfl)) (by kernel_rfl) (by kernel_rfl) (by kernel_rfl) (sumsLimits_met os _)) ?_
  intro W base args ds gs before hval0 hW _ hsz hL _
  have hval : ∀ (j : Nat) t v, Tryd.f9.params[j]? = some t → args[j]? = some v → Value.okWide Tryd.prog W .any base t v := hval0
  have hW' := hW
  obtain ⟨p, q, hA0, hV, rfl, hfz, hnd⟩ := hW
  have hA : DataW.TrodAll enc Tryd.prog W 0 (fun _ => true) true Tryd.f9.params.toList args.toList ds p := hA0
  rw [Tryd.params9] at hA hval
  obtain ⟨v0, vs0, d0, ds0, p0, q0, hargs, rfl, rfl, h0, r0⟩ := trodAll_cons hA
  obtain ⟨v1, vs1, d1, ds1, p1, q1, rfl, rfl, rfl, h1, r1⟩ := trodAll_cons r0
  obtain ⟨v2, vs2, d2, ds2, p2, q2, rfl, rfl, rfl, h2, r2⟩ := trodAll_cons r1
  obtain ⟨rfl, rfl, rfl⟩ := trodAll_nil r2
  obtain rfl : args = #[v0, v1, v2] := by cases args; simp_all
  obtain ⟨rfl, rfl⟩ := trodVars_none hV
  obtain ⟨x0, rfl, rfl, rfl, wx0⟩ := open_int Tryd.underlying3 (hval 0 3 v0 rfl rfl) h0
  have hx0 : I64 x0 := by
    have := bounds_i64 wx0
    exact ⟨by omega, by omega⟩
  obtain ⟨a1, len1, cap1, rfl⟩ := okWide_slice Tryd.underlying55 (hval 1 55 v1 rfl rfl)
  have k1 := h1
  have lt1 : ∀ y ∈ p1, y.block < W.heap.size := by obtain ⟨m, hm⟩ := k1; exact DataW.trod_lt m _ _ _ hm
  obtain ⟨z1, hl1, hs1, hc1, hn1⟩ : ∃ zs : List M.Wt, zs.length = len1 ∧ Wts W a1 zs ∧ zs.length ≤ cap1 ∧ (a1 = none → cap1 = 0) := by
    obtain ⟨fuel, hf⟩ := h1
    exact wts_open (by simpa [Value.cells] using hf) (fun q hq => by
      have := List.all_eq_true.1 hsz q (DataW.weights_mem_each (j := 1) (t := 55) (d := d1) (by rw [Tryd.params9]; rfl) rfl q hq)
      simpa using this) lt1
  subst hl1
  obtain ⟨a2, len2, cap2, rfl⟩ := okWide_slice Tryd.underlying30 (hval 2 30 v2 rfl rfl)
  have k2 := h2
  have lt2 : ∀ y ∈ p2, y.block < W.heap.size := by obtain ⟨m, hm⟩ := k2; exact DataW.trod_lt m _ _ _ hm
  obtain ⟨z2, hl2, hs2, hc2, hn2⟩ : ∃ zs : List Int, zs.length = len2 ∧ Ints W a2 zs ∧ zs.length ≤ cap2 ∧ (a2 = none → cap2 = 0) := by
    obtain ⟨fuel, hf⟩ := h2
    exact ints_open (by simpa [Value.cells] using hf) (fun q hq => by
      have := List.all_eq_true.1 hsz q (DataW.weights_mem_each (j := 2) (t := 30) (d := d2) (by rw [Tryd.params9]; rfl) rfl q hq)
      simpa using this) lt2
  subst hl2
  clear hA0 hval0
  obtain ⟨A, hE⟩ := errs_of_laid hL
  refine (limitsLaw alive16 x0 a1 cap1 z1 a2 cap2 z2 A W hx0 hs1 hs2 hE).mono fun e W' ⟨he, bel⟩ => ?_
  subst he
  exact ⟨_, rfl, _, _, _, [], _, [], hW', trodAll_mk1 (shut_bool Tryd.underlying4 _), (trodAll_cons_mk (shut_int Tryd.underlying3 wx0) (trodAll_cons_mk (Below.trod laidOutP (by kernel_rfl) (of_decide_eq_true (by kernel_rfl)) k1 bel lt1) (trodAll_cons_mk (Below.trod laidOutP (by kernel_rfl) (of_decide_eq_true (by kernel_rfl)) k2 bel lt2) trodAll_mk0))), rfl, bel.frame _, fun h => by cases h⟩

theorem sumsLimits_holds : Rows.SumsLimitsSaid :=
  OpenClaim.holds_of_wide 9 Tryd.f9 rfl rfl rfl rfl rfl rfl rfl ⟨rfl, rfl, rfl, rfl, rfl⟩ rfl rfl rfl rfl rfl (by kernel_rfl) Tryd.func9 (by kernel_rfl)
    (of_decide_eq_true (by kernel_rfl)) (by unfold Func.isWrapper; first | (rw [if_pos (by decide +kernel)]; kernel_rfl) | (rw [if_neg (by decide +kernel)]; exact ⟨rfl, rfl⟩))
    (fun os started H enc _ => sumsLimits_lifted os started H enc)
theorem sumsLimits_card : Rows.SumsLimitsCardSaid :=
  Claim7.holds_tied_plain_at .later [] [.sentinel, .sentinel, .sentinel, .sentinel, .sentinel, .sentinel, .sentinel, .sentinel, .sentinel, .sentinel, .sentinel, .sentinel, .sentinel] true Rows.sumsLimitsCard.stood.harness true
    sumsLimits_holds (fun _ h => by cases h) (by kernel_rfl) (fun _ h => by cases h) sumsLimits_row_tie rfl ⟨rfl, rfl⟩ (by kernel_rfl) rfl
    (fun f fn hf hfn => by
      obtain rfl : f = 9 := Option.some.inj ((show Tryd.prog.funcNamed Rows.sumsLimitsRow.func = some 9 by kernel_rfl).symm.trans hf) |>.symm
      obtain rfl : fn = Tryd.f9 := (Option.some.inj (Tryd.func9.symm.trans hfn)).symm
      exact ⟨by kernel_rfl, fun j t ht => by
        rw [Tryd.params9] at ht
        rcases j with _ | _ | _ | j
        · have h3 : t = 3 := by simpa using ht.symm
          subst h3; exact (show Tryd.prog.wantsStandIn 3 = false by kernel_rfl)
        · have h3 : t = 55 := by simpa using ht.symm
          subst h3; exact (show Tryd.prog.wantsStandIn 55 = false by kernel_rfl)
        · have h3 : t = 30 := by simpa using ht.symm
          subst h3; exact (show Tryd.prog.wantsStandIn 30 = false by kernel_rfl)
        · simp at ht⟩)
    (by kernel_rfl)
#print axioms sumsLimits_card
end Go.Proofs.YtllkeojkejbbeaaDoor

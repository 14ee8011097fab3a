/- CnfOpposites: for every number and every list of signs the law returns true, and its arguments read as they did. -/
import Derived.Test.YtdppmmimemmedaaDoorOppLaw
import Derived.Test.YtdppmmimemmedaaDoorRows
import Derived.Test.YtdppmmimemmedaaDoorTie
import Derived.Test.YtdppmmimemmedaaDoorCards
import Derived.SevenTiedAt
import Derived.ProofKit
import Derived.LaidMore
import Derived.OpenShut
import Derived.Stop.Joined
import Derived.Deep.Grids
import Derived.SizedLaws
namespace Go.Proofs.YtdppmmimemmedaaDoor
open Go.ChangeShapes Go.WideShapes Go.ChangeAt Go.WideMaps Go.WideElems Go.RowKit Go.Deep

theorem ownK : ownKnob Tryd.prog.godebug = none := by kernel_rfl
theorem laidOutP : laidOutB Tryd.prog = true := by kernel_rfl
theorem cellsBool : Tryd.prog.cellsOf 4 = 1 := by kernel_rfl
theorem opp_met (os : Os) (args : Array Value) : laidMetH Tryd.prog Rows.cnfOppositesRow.laid ((World.doorLaid Tryd.prog 400 os).forCall (fun _ _ => 0) ⟨#[], args, []⟩).memory :=
  laidMetH_of_parts3 (fuel := 8) (laidMet_of_run' 8 (by kernel_rfl) (by kernel_rfl)) (by kernel_rfl) (by kernel_rfl)
set_option maxRecDepth 100000 in
theorem opp_lifted (os : Os) (started : os.Started) (H : Type) (enc : TypeId × Value → H) :
    ReturnsInHanded {} Tryd.checked os 6 .any (fun w args => (Rows.cnfOppositesSpec.pre enc Tryd.prog Tryd.f6 [] false w args ∧ laidMetH Tryd.prog Rows.cnfOppositesRow.laid w) ∧ sizedMet enc Tryd.prog Tryd.f6 (OpenSpec.ofChange Rows.cnfOppositesSpec) false w args)
      (Rows.cnfOppositesSpec.post enc Tryd.prog Tryd.f6 false true false false) := by
  refine returnsInHanded_of_change_and (C := Tryd.checked) (X := fun w _ => laidMetH Tryd.prog Rows.cnfOppositesRow.laid w) (fun _ _ _ hh h => h.of_heap hh) ownK started (by kernel_rfl) Tryd.func6
    (ChangeSpec.witness_shaped (enc := enc) (C := Tryd.checked) (os := os) (X := fun w _ => laidMetH Tryd.prog Rows.cnfOppositesRow.laid w) false (World.doorLaid Tryd.prog 400 os) #[.int .i64 0, .slice none 0 0] 8 rfl (World.shaped_of_RefB (by kernel_rfl) (by kernel_rfl)) (by kernel_rfl) (by kernel_rfl) (by kernel_rfl) (opp_met os _)) ?_
  intro W base args ds gs before hval0 hW _ hsz hL _
  have hval : ∀ (j : Nat) t v, Tryd.f6.params[j]? = some t → args[j]? = some v → Value.okWide Tryd.prog W .any base t v := hval0
  have hW' := hW
  obtain ⟨p, q, hA0, hV, rfl, hfz, hnd⟩ := hW
  have hA : DataW.TrodAll enc Tryd.prog W 0 (fun _ => true) true Tryd.f6.params.toList args.toList ds p := hA0
  rw [Tryd.params6] at hA hval
  obtain ⟨v0, v1, d0, d1, p0, p1, hargs, rfl, rfl, h0, h1⟩ := trodAll_two hA
  obtain rfl : args = #[v0, v1] := by cases args; simp_all
  obtain ⟨rfl, rfl⟩ := trodVars_none hV
  obtain ⟨x, rfl, rfl, rfl, wx⟩ := open_int Tryd.underlying3 (hval 0 3 v0 rfl rfl) h0
  obtain ⟨a1, len1, cap1, rfl⟩ := okWide_slice Tryd.underlying42 (hval 1 42 v1 rfl rfl)
  have k1 := h1
  have lt1 : ∀ y ∈ p1, y.block < W.heap.size := by obtain ⟨m, hm⟩ := k1; exact DataW.trod_lt m _ _ _ hm
  obtain ⟨ss, hsl, hss⟩ : ∃ ss : List Bool, ss.length = len1 ∧ Bools W a1 ss := by
    obtain ⟨fuel, hf⟩ := h1
    rcases open_bools Tryd.underlying42 Tryd.underlying4 cellsBool hf with ⟨hcs, hx⟩ | ⟨ad, len, cap, B, hcs, _, hl, hm, hx, hcell⟩
    · simp [Value.cells] at hcs
      obtain ⟨rfl, rfl, rfl⟩ := hcs
      exact ⟨[], rfl, fun h => by simp at h, by simp⟩
    · simp [Value.cells] at hcs
      obtain ⟨rfl, rfl, rfl⟩ := hcs
      have hd : d1 = boolRow (some ad) len1 cap1 B := by simpa using congrArg Prod.fst hx
      have hsz1 := sized_slice hsz (j := 1) (t := 42) (e := 4) (elems := (List.range len1).map fun i => .lit (.bool (B i))) (spare := (List.range (cap1 - len1)).map fun j => .lit (.bool (B (len1 + j)))) (by rw [Tryd.params6]; rfl) (by rw [hd]; rfl) Tryd.underlying42
      rw [show Tryd.checked.prog.bytesOf 4 = 1 by kernel_rfl] at hsz1
      simp only [List.length_map, List.length_range, reachBytes] at hsz1
      refine ⟨(List.range len1).map B, by simp, fun h0 => ?_, by simp; omega⟩
      have hl0 : 0 < len1 := by simpa using h0
      have hc0 := hcell 0 (by omega)
      obtain ⟨b, off, spot⟩ := ad
      have hspot : spot = none := by simpa [Addr.add] using World.cell?_spot hc0
      subst hspot
      have hblt : b < W.heap.size := by
        have : MemPlace.cell b off ∈ p1 := by
          rw [show p1 = MemPlace.row ⟨b, off, none⟩ cap1 by simpa using congrArg Prod.snd hx]
          simp [MemPlace.row]; omega
        exact lt1 _ this
      refine ⟨b, off, rfl, hblt, fun i z hz => ?_⟩
      have hi : i < len1 := by
        rcases Nat.lt_or_ge i len1 with h' | h'
        · exact h'
        · rw [List.getElem?_eq_none (by simpa using h')] at hz; cases hz
      have := hcell i (by omega)
      rw [addr_add] at this
      rw [this]
      simp [hi] at hz; rw [hz]
  subst hsl
  clear hA0 hval0
  have hx64 : I64 x := by
    have := bounds_i64 wx
    exact ⟨by omega, by omega⟩
  refine (oppLaw x a1 cap1 ss W hx64 hss).mono fun e W' ⟨he, bel⟩ => ?_
  subst he
  exact ⟨_, rfl, _, _, _, [], _, [], hW', trodAll_mk1 (shut_bool Tryd.underlying4 _), (trodAll_cons_mk (shut_int Tryd.underlying3 wx) (trodAll_cons_mk (Below.trod laidOutP (by kernel_rfl) (of_decide_eq_true (by kernel_rfl)) k1 bel lt1) trodAll_mk0)), rfl, bel.frame _, fun h => by cases h⟩

theorem opp_holds : Rows.CnfOppositesSaid :=
  OpenClaim.holds_of_wide 6 Tryd.f6 rfl rfl rfl rfl rfl rfl rfl ⟨rfl, rfl, rfl, rfl, rfl⟩ rfl rfl rfl rfl rfl (by kernel_rfl) Tryd.func6 (by kernel_rfl)
    (of_decide_eq_true (by kernel_rfl)) (by unfold Func.isWrapper; first | (rw [if_pos (by decide +kernel)]; kernel_rfl) | (rw [if_neg (by decide +kernel)]; exact ⟨rfl, rfl⟩))
    (fun os started H enc _ => opp_lifted os started H enc)
theorem cnfOpposites_card : Rows.CnfOppositesCardSaid :=
  Claim7.holds_tied_plain_at .later [] [.sentinel, .sentinel] true Rows.cnfOppositesCard.stood.harness true
    opp_holds (fun _ h => by cases h) (by kernel_rfl) (fun _ h => by cases h) cnfOpposites_row_tie rfl ⟨rfl, rfl⟩ (by kernel_rfl) rfl
    (fun f fn hf hfn => by
      obtain rfl : f = 6 := Option.some.inj ((show Tryd.prog.funcNamed Rows.cnfOppositesRow.func = some 6 by kernel_rfl).symm.trans hf) |>.symm
      obtain rfl : fn = Tryd.f6 := (Option.some.inj (Tryd.func6.symm.trans hfn)).symm
      exact ⟨by kernel_rfl, fun j t ht => by
        rw [Tryd.params6] at ht
        rcases j with _ | _ | j
        · have h3 : t = 3 := by simpa using ht.symm
          subst h3; exact (show Tryd.prog.wantsStandIn 3 = false by kernel_rfl)
        · have h3 : t = 42 := by simpa using ht.symm
          subst h3; exact (show Tryd.prog.wantsStandIn 42 = false by kernel_rfl)
        · simp at ht⟩)
    (by kernel_rfl)
#print axioms cnfOpposites_card
end Go.Proofs.YtdppmmimemmedaaDoor

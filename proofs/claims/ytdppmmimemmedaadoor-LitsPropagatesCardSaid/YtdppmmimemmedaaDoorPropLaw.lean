/- The walk of haversacklaw14.LitsPropagates. -/
import Derived.Test.YtdppmmimemmedaaDoorAlive14
import Derived.Test.YtdppmmimemmedaaDoorPropRef
import Derived.Test.YtdppmmimemmedaaDoorKept
namespace Go.Proofs.YtdppmmimemmedaaDoor
open Go.RowKit

theorem M.big_false {cs : List (List Int)} {many long : Nat} (h : M.big cs many long = false) : cs.length ≤ many ∧ ∀ x ∈ cs, x.length ≤ long := by
  simp only [M.big, Bool.or_eq_false_iff, decide_eq_false_iff_not, List.any_eq_false, decide_eq_true_eq] at h
  exact ⟨by omega, fun x hx => by have := h.2 x hx; omega⟩
set_option maxHeartbeats 2000000 in
set_option maxRecDepth 100000 in
theorem propLaw (hA : Alive14) (a : Option Addr) (c : Nat) (cs : List (List Int)) (b : Option Addr) (d : Nat) (fr : List Int) (w : World) (hz : Cls w a cs) (hf : Ints w b fr) (hd : b = none → d = 0) :
    Calls Tryd.prog 5 #[.slice a cs.length c, .slice b fr.length d] w fun e w' => e = .returned (.bool true) ∧ Below w.heap.size w w' := by
  have hlen := hz.len
  have hfl := hf.len
  have HC := Lib.hid hz
  have HF := Lib.hid hf
  have HD := Lib.hid hd
  have HA := Lib.hid (hA w)
  clear hz hf hA hd
  go_enter Tryd.func5, Tryd.ntmps5
  go_wp2_with fail
  refine HA.out.mono ?_
  rintro e W0 ⟨rfl, hb0⟩
  have HB0 := Lib.hid hb0
  have hC0 := HC.out.below hb0
  have hF0 := HF.out.below hb0
  have hbig := rbig_any a c cs 40 12 W0 hC0 (by omega) (by omega)
  have HBIG := Lib.hid hbig
  have HC0 := Lib.hid hC0
  have HF0 := Lib.hid hF0
  clear hb0 hC0 hF0 hbig HA HC HF
  go_wp2_with fail
  refine HBIG.out.mono ?_
  rintro e W0' ⟨rfl, rfl⟩
  clear HBIG
  cases hbg : M.big cs 40 12
  · obtain ⟨hcs, hcl⟩ := M.big_false hbg
    have HCL := Lib.hid hcl
    clear hcl
    by_cases hm3 : 40 < fr.length
    · have hd : decide ((40 : Int) < (fr.length : Int)) = true := by simp; omega
      go_wp2
      go_ret
      exact ⟨rfl, HB0.out⟩
    · have hd : decide ((40 : Int) < (fr.length : Int)) = false := by simp; omega
      have hi := ints_any b d fr W0 HF0.out HD.out (by omega)
      have HIA := Lib.hid hi
      clear hi
      go_wp2_with fail
      refine HIA.out.mono ?_
      rintro e W1 ⟨g, c1, rfl, ho, hb1⟩
      have hI1 := ho.front HF0.out.wf (by omega)
      have HB1 := Lib.hid (below_next HB0.out hb1)
      have hC1 := HC0.out.below hb1
      have HF1 := Lib.hid (HF0.out.below hb1)
      have HP := Lib.hid (prop_any a c cs (some ⟨g, 0, none⟩) c1 fr W1 hC1 (by omega) hI1)
      have HC1 := Lib.hid hC1
      clear ho hb1 hI1 hC1 HIA
      go_wp2_with fail
      refine HP.out.mono ?_
      rintro e W2 ⟨l, ok, a2, c2, rfl, hres, h2, hb2⟩
      have HB2 := Lib.hid (below_next HB1.out hb2)
      have hC2 := HC1.out.below hb2
      have hF2 := HF1.out.below hb2
      have HR := Lib.hid (rprop_any a c cs b d fr W2 hC2 (by omega) (fun x hx => by have := HCL.out x hx; omega) hF2 (by omega))
      have HRES := Lib.hid hres
      have HI2 := Lib.hid h2
      clear hres h2 hb2 hC2 hF2 HP
      go_wp2_with fail
      refine HR.out.mono ?_
      rintro e W3 ⟨l', ok', a3, c3, rfl, hres', h3, hb3⟩
      obtain ⟨rfl, rfl⟩ := HRES.out.unique hres'
      have HB3 := Lib.hid (below_next HB2.out hb3)
      have hs := sameInts_any a2 c2 l a3 c3 l W3 (HI2.out.below hb3) h3
      have hs' := hs.mono fun e w' (h : e = .returned (.bool (M.eqs l l)) ∧ _) => (⟨by rw [h.1]; simp [M.eqs], h.2⟩ : e = .returned (.bool true) ∧ _)
      have HS := Lib.hid hs'
      have hoo : (ok == ok) = true := by simp
      clear hres' h3 hb3 hs hs' HR
      go_wp2_with fail
      refine HS.out.mono ?_
      rintro e W4 ⟨rfl, q, hW4⟩
      have hb4 : Below W3.heap.size W3 W4 := by rw [hW4]; exact bDrewN _ _ _
      have HB4 := Lib.hid (below_next HB3.out hb4)
      clear hb4 hW4 HS
      go_wp2
      go_ret
      exact ⟨rfl, HB4.out⟩
  · go_wp2
    go_ret
    exact ⟨rfl, HB0.out⟩
end Go.Proofs.YtdppmmimemmedaaDoor

/- The walk of haversacklaw16.SumsBounds. -/
import Derived.Test.YtllkeojkejbbeaaDoorSRef
import Derived.Test.YtllkeojkejbbeaaDoorSDigLaw
import Derived.Test.YtllkeojkejbbeaaDoorNum
namespace Go.Proofs.YtllkeojkejbbeaaDoor
open Go.RowKit

set_option maxHeartbeats 4000000 in
set_option maxRecDepth 100000 in
theorem boundsLaw (hal : Alive16) (a : Option Addr) (c : Nat) (ts : List M.Wt) (b : Option Addr) (d : Nat) (m : List Bool) (A : Nat → Addr) (w : World) (hz : Wts w a ts) (hm : Bools w b m) (hE : Errs w A) :
    Calls Tryd.prog 7 #[.slice a ts.length c, .slice b m.length d] w fun e w' => e = .returned (.bool true) ∧ Below w.heap.size w w' := by
  have hlen := hz.len
  have hlen2 := hm.len
  have HAL := Lib.hid (hal w)
  have HZ := Lib.hid hz
  have HM := Lib.hid hm
  have HE := Lib.hid hE
  clear hal hz hm hE
  go_enter Tryd.func7, Tryd.ntmps7
  go_wp2_with fail
  refine HAL.out.mono ?_
  rintro e w0 ⟨rfl, hb0⟩
  have HB0 := Lib.hid hb0
  clear hb0 HAL
  by_cases hl : ts.length ≤ 300
  · by_cases hl2 : m.length ≤ 1000
    · cases hok : ts.all M.wOk
      · have h1 := bound_bad a c ts (errAt (A 9)) w0 (HZ.out.below HB0.out) hok (by omega) ((HE.out.below HB0.out).at' 9 _ rfl).cell
        have H1 := Lib.hid h1
        have HOK := Lib.hid hok
        clear h1 hok
        go_wp2_with fail
        refine H1.out.mono ?_
        rintro e w1 ⟨rfl, hb1⟩
        have HB1 := Lib.hid (HB0.out.trans (hb1.mono HB0.out.size))
        have H2 := Lib.hid (rbound_bad a c ts w1 (HZ.out.below HB1.out) HOK.out (by omega))
        clear hb1 H1
        go_wp2_with fail
        refine H2.out.mono ?_
        rintro e w2 ⟨rfl, hb2⟩
        have HB2 := Lib.hid (HB1.out.trans (hb2.mono HB1.out.size))
        have H3 := Lib.hid (num_err A 9 w2 (by omega) (HE.out.below HB2.out))
        clear hb2 H2
        go_wp2_with fail
        refine H3.out.mono ?_
        rintro e w3 ⟨rfl, hb3⟩
        have HB3 := Lib.hid (HB2.out.trans (hb3.mono HB2.out.size))
        clear hb3 H3
        go_wp2
        go_ret
        exact ⟨rfl, HB3.out⟩
      · have h1 := bound_ok a c ts w0 (HZ.out.below HB0.out) hok (by omega)
        have H1 := Lib.hid h1
        have HOK := Lib.hid hok
        clear h1 hok
        go_wp2_with fail
        refine H1.out.mono ?_
        rintro e w1 ⟨rfl, hb1⟩
        have HB1 := Lib.hid (HB0.out.trans (hb1.mono HB0.out.size))
        have H2 := Lib.hid (rbound_ok a c ts w1 (HZ.out.below HB1.out) HOK.out (by omega))
        clear hb1 H1
        go_wp2_with fail
        refine H2.out.mono ?_
        rintro e w2 ⟨rfl, hb2⟩
        have HB2 := Lib.hid (HB1.out.trans (hb2.mono HB1.out.size))
        have H3 := Lib.hid (num_nil w2)
        clear hb2 H2
        go_wp2_with fail
        refine H3.out.mono ?_
        rintro e w3 ⟨rfl, rfl⟩
        have H4 := Lib.hid (value_any a c ts b d m w2 (HZ.out.below HB2.out) (HM.out.below HB2.out) HOK.out (by omega))
        clear H3
        go_wp2_with fail
        refine H4.out.mono ?_
        rintro e w4 ⟨rfl, hb4⟩
        have HB4 := Lib.hid (HB2.out.trans (hb4.mono HB2.out.size))
        have H5 := Lib.hid (rvalue_any a c ts b d m w4 (HZ.out.below HB4.out) (HM.out.below HB4.out) HOK.out (by omega))
        clear hb4 H4
        go_wp2_with fail
        refine H5.out.mono ?_
        rintro e w5 ⟨rfl, hb5⟩
        have HB5 := Lib.hid (HB4.out.trans (hb5.mono HB4.out.size))
        clear hb5 H5
        go_wp2
        go_ret
        exact ⟨rfl, HB5.out⟩
    · go_wp2
      go_ret
      exact ⟨rfl, HB0.out⟩
  · go_wp2
    go_ret
    exact ⟨rfl, HB0.out⟩
end Go.Proofs.YtllkeojkejbbeaaDoor

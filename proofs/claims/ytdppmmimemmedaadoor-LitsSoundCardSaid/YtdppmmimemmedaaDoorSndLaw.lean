/- The walk of haversacklaw14.LitsSound. -/
import Derived.Test.YtdppmmimemmedaaDoorFew
import Derived.Test.YtdppmmimemmedaaDoorModels
import Derived.Test.YtdppmmimemmedaaDoorResolve
import Derived.Test.YtdppmmimemmedaaDoorErrs
namespace Go.Proofs.YtdppmmimemmedaaDoor
open Go.RowKit

theorem cell_lt {w : World} {b i : Nat} {v : Value} (h : w.cell? ⟨b, i, none⟩ = some v) : b < w.heap.size := by
  rcases Nat.lt_or_ge b w.heap.size with h' | h'
  · exact h'
  · exfalso; simp [World.cell?, Array.getElem?_eq_none h'] at h
/-- what Resolve answers -/
def ResPost (w : World) (xs ys : List Int) (v : Int) (e : Ending) (w' : World) : Prop :=
  (∃ ea, e = .returned (.tuple #[.slice none 0 0, errAt ea]) ∧ Below w.heap.size w w') ∨ ((1 ≤ v ∧ v ≤ 20000) ∧ NormOk w (M.resolve xs ys v) e w')
theorem resolve_all (a b : Option Addr) (c d : Nat) (xs ys : List Int) (v : Int) (e0 e1 : Addr) (w : World) (hx : Ints w a xs) (hy : Ints w b ys) (hxs : xs.length ≤ 1000000) (hys : ys.length ≤ 1000000)
    (h0 : w.cell? ⟨1, 0, none⟩ = some (errAt e0)) (h1 : w.cell? ⟨11, 0, none⟩ = some (errAt e1)) :
    Calls Tryd.prog 43 #[.slice a xs.length c, .slice b ys.length d, .int .i64 v] w (ResPost w xs ys v) := by
  by_cases hv : v < 1 ∨ 20000 < v
  · exact (resolve_range a b c d xs ys v _ w hv h0).mono fun e w' h => .inl ⟨e0, h⟩
  have hv' : 1 ≤ v ∧ v ≤ 20000 := by omega
  cases r1 : M.right xs
  · exact (resolve_none1 a b c d xs ys v _ w hv' hx hy r1 h1).mono fun e w' h => .inl ⟨e1, h⟩
  cases r2 : M.right ys
  · exact (resolve_none2 a b c d xs ys v _ w hv' hx hy r1 r2 h1).mono fun e w' h => .inl ⟨e1, h⟩
  cases r3 : M.inn xs v
  · exact (resolve_none3 a b c d xs ys v _ w hv' hx hy r1 r2 r3 h1).mono fun e w' h => .inl ⟨e1, h⟩
  cases r4 : M.inn ys (-v)
  · exact (resolve_none4 a b c d xs ys v _ w hv' hx hy r1 r2 r3 r4 h1).mono fun e w' h => .inl ⟨e1, h⟩
  exact (resolve_ok a b c d xs ys v w hv' hx hy r1 r2 r3 r4 hxs hys).mono fun e w' h => .inr ⟨hv', h⟩
set_option maxHeartbeats 4000000 in
set_option maxRecDepth 100000 in
theorem sndLaw (hA : Alive14) (a : Option Addr) (c : Nat) (xs : List Int) (b : Option Addr) (d : Nat) (ys : List Int) (v : Int) (e0 e1 : Addr) (w : World) (hx : Ints w a xs) (hy : Ints w b ys)
    (h0 : w.cell? ⟨1, 0, none⟩ = some (errAt e0)) (h1 : w.cell? ⟨11, 0, none⟩ = some (errAt e1)) :
    Calls Tryd.prog 10 #[.slice a xs.length c, .slice b ys.length d, .int .i64 v] w fun e w' => e = .returned (.bool true) ∧ Below w.heap.size w w' := by
  have hlx := hx.len
  have hly := hy.len
  have hlt0 : 1 < w.heap.size := cell_lt h0
  have hlt1 : 11 < w.heap.size := cell_lt h1
  have HX := Lib.hid hx
  have HY := Lib.hid hy
  have H0 := Lib.hid h0
  have H1 := Lib.hid h1
  have HL := Lib.hid (And.intro hlt0 hlt1)
  have HA := Lib.hid (hA w)
  clear hx hy hA h0 h1 hlt0 hlt1
  go_enter Tryd.func10, Tryd.ntmps10
  go_wp2_with fail
  refine HA.out.mono ?_
  rintro e W0 ⟨rfl, hb0⟩
  have HB0 := Lib.hid hb0
  have HX0 := Lib.hid (HX.out.below hb0)
  have HY0 := Lib.hid (HY.out.below hb0)
  have HFEW := Lib.hid (few_any (some ⟨W0.heap.size, 0, none⟩) 2 [xs, ys] (W0.alloc (.cells #[.slice a xs.length c, .slice b ys.length d] 58)) (Cls.two HX0.out HY0.out c d _))
  clear hb0 HA
  go_wp2_with fail
  refine HFEW.out.mono ?_
  rintro e W1 ⟨b1, rfl, hfew, hW1⟩
  have hb1 : Below W0.heap.size W0 W1 := by rw [← hW1]; exact below_alloc (Below.refl _ _) _
  have HB1 := Lib.hid (below_next HB0.out hb1)
  have HX1 := Lib.hid (HX0.out.below hb1)
  have HY1 := Lib.hid (HY0.out.below hb1)
  clear hW1 hb1 HFEW HX0 HY0 HB0
  cases b1
  · go_wp2
    go_ret
    exact ⟨rfl, HB1.out⟩
  obtain ⟨_, hf2⟩ := hfew rfl
  have hfx := hf2 xs (by simp)
  have hfy := hf2 ys (by simp)
  have HR := Lib.hid (resolve_all a b c d xs ys v e0 e1 W1 HX1.out HY1.out (by omega) (by omega) ((HB1.out.cell (p := ⟨1, 0, none⟩) HL.out.1).trans H0.out) ((HB1.out.cell (p := ⟨11, 0, none⟩) HL.out.2).trans H1.out))
  clear hfew hf2
  go_wp2_with fail
  refine HR.out.mono ?_
  rintro e W2 (⟨ea, rfl, hb2⟩ | ⟨hv, a2, c2, rfl, h2, _, _, hb2, _⟩)
  · have HB2 := Lib.hid (below_next HB1.out hb2)
    have hneq := neqErr ea
    have hneg := neqErrG ea
    unfold errAt at hneq hneg ⊢
    clear hb2 HR
    go_wp2
    go_ret
    exact ⟨rfl, HB2.out⟩
  have HB2 := Lib.hid (below_next HB1.out hb2)
  have HX2 := Lib.hid (HX1.out.below hb2)
  have HY2 := Lib.hid (HY1.out.below hb2)
  have HI2 := Lib.hid h2
  have hvl : M.isLit v = true := by rw [M.isLit_iff]; omega
  have HV := Lib.hid hvl
  clear hb2 h2 HR HX1 HY1 HB1 hvl
  obtain ⟨rs, hrs⟩ : ∃ rs, rs = M.resolve xs ys v := ⟨_, rfl⟩
  rw [← hrs] at HI2 ⊢
  have HRS := Lib.hid hrs
  clear hrs
  go_wp2
  go_loopw [28] (fun i wr => ∃ k : Nat, k ≤ 256 ∧ i = .int .i64 k ∧ Below W2.heap.size W2 wr) (fun i _ => 256 - (intOf i).toNat)
  case atStart => exact ⟨0, by omega, rfl, Below.refl _ _⟩
  case round =>
    obtain ⟨k, hk, rfl, hbr⟩ := hrel
    have HBR := Lib.hid hbr
    clear hbr
    by_cases hlt : k < 256
    · obtain ⟨wo, rfl⟩ : ∃ wo : World, wo = wr := ⟨_, rfl⟩
      go_wp2_with (at_make; refine wpList_make_Bools rfl _ _ rfl wo.heap.size 8 rfl rfl (by omega) (Nat.le_refl _) ?_; intro w1 hown hb1 hlt1; have HO1 := Lib.hid hown; have HB1 := Lib.hid hb1; clear hown hb1)
      go_loopw [34] (fun i wr => ∃ j : Nat, j ≤ 8 ∧ i = .int .i64 j ∧ OwnB wr wo.heap.size (some ⟨wo.heap.size, 0, none⟩) 8 (M.modelTo 8 k j) ∧ Below wo.heap.size wo wr) (fun i _ => 8 - (intOf i).toNat)
      case atStart => exact ⟨0, Nat.zero_le _, rfl, by simpa [M.modelTo] using HO1.out, HB1.out⟩
      case round =>
        obtain ⟨j, hj, rfl, ho2, hb2⟩ := hrel
        have HO2 := Lib.hid ho2
        have HBO := Lib.hid hb2
        clear ho2 hb2
        by_cases hjl : j < 8
        · have hfz := HO2.out.frozen j
          obtain ⟨y, hy⟩ : ∃ y, (M.modelTo 8 k j)[j]? = some y := ⟨_, List.getElem?_eq_getElem (by rw [M.modelTo_length _ _ _ hj]; exact hjl)⟩
          have hcell := HO2.out.cell hy
          clear hy
          go_wp2
          go_roundw
          case rel =>
            rw [bit_at k j (by omega)]
            exact ⟨j + 1, by omega, by go_num, by rw [← M.modelTo_set 8 k j hjl]; exact HO2.out.stored j _, HBO.out.setCell (Nat.le_refl _) _⟩
          case measure => simp [intOf]; omega
        · obtain ⟨m, hm⟩ : ∃ m, m = M.modelTo 8 k j := ⟨_, rfl⟩
          have hml : m.length = 8 := by rw [hm]; exact M.modelTo_length 8 k j hj
          have hM : Bools wr (some ⟨wo.heap.size, 0, none⟩) m := by rw [hm]; exact HO2.out.bools (by rw [← hm, hml]; omega)
          have hbw := below_next HBR.out HBO.out
          have HBW := Lib.hid hbw
          have HT1 := Lib.hid (true_any a c xs (some ⟨wo.heap.size, 0, none⟩) 8 m wr (HX2.out.below hbw) hM)
          have HT2 := Lib.hid (true_any b d ys (some ⟨wo.heap.size, 0, none⟩) 8 m wr (HY2.out.below hbw) hM)
          have HT3 := Lib.hid (true_any a2 c2 rs (some ⟨wo.heap.size, 0, none⟩) 8 m wr (HI2.out.below hbw) hM)
          rw [hml] at HT1 HT2 HT3
          clear hm hM hbw HO2 HO1 HB1
          go_wp2_with fail
          refine HT1.out.mono ?_
          rintro e w' ⟨rfl, rfl⟩
          cases t1 : M.tru xs m
          · go_wp2
            go_roundw
            case rel => exact ⟨k + 1, by omega, by go_num, HBW.out⟩
            case measure => simp [intOf]; omega
          go_wp2_with fail
          refine HT2.out.mono ?_
          rintro e w' ⟨rfl, rfl⟩
          cases t2 : M.tru ys m
          · go_wp2
            go_roundw
            case rel => exact ⟨k + 1, by omega, by go_num, HBW.out⟩
            case measure => simp [intOf]; omega
          have t3 : M.tru rs m = true := by rw [HRS.out]; exact M.resolve_sound HV.out t1 t2
          go_wp2_with fail
          refine HT3.out.mono ?_
          rintro e w' ⟨rfl, rfl⟩
          go_wp2
          go_roundw
          case rel => exact ⟨k + 1, by omega, by go_num, HBW.out⟩
          case measure => simp [intOf]; omega
    · go_wp2
      go_ret
      exact ⟨rfl, below_next HB2.out HBR.out⟩
end Go.Proofs.YtdppmmimemmedaaDoor

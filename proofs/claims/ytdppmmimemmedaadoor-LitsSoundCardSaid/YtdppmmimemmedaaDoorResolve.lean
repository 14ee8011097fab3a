/- lits.Resolve. -/
import Derived.Test.YtdppmmimemmedaaDoorKept
namespace Go.Proofs.YtdppmmimemmedaaDoor
open Go.RowKit

/-- nothing but an error is handed back -/
def Refused (w : World) (v : Value) (e : Ending) (w' : World) : Prop := e = .returned (.tuple #[.slice none 0 0, v]) ∧ Below w.heap.size w w'
theorem resolve_range (a b : Option Addr) (c d : Nat) (xs ys : List Int) (v : Int) (er : Value) (w : World) (hv : v < 1 ∨ 20000 < v) (hg : w.cell? ⟨1, 0, none⟩ = some er) :
    Calls Tryd.prog 43 #[.slice a xs.length c, .slice b ys.length d, .int .i64 v] w (Refused w er) := by
  by_cases h1 : v < 1
  · have t1 : decide (v < 1) = true := by simpa using h1
    go_enter Tryd.func43, Tryd.ntmps43
    go_wp2
    go_quiet (fail)
    go_wp2
    go_ret2
    exact ⟨rfl, bDrewN _ _ _⟩
  · have t1 : decide (v < 1) = false := by simpa using h1
    have t2 : decide (20000 < v) = true := by simp; omega
    go_enter Tryd.func43, Tryd.ntmps43
    go_wp2
    go_quiet (fail)
    go_wp2
    go_ret2
    exact ⟨rfl, bDrewN _ _ _⟩
theorem resolve_none1 (a b : Option Addr) (c d : Nat) (xs ys : List Int) (v : Int) (er : Value) (w : World) (hv : 1 ≤ v ∧ v ≤ 20000) (hx : Ints w a xs) (hy : Ints w b ys) (r1 : M.right xs = false) (hg : w.cell? ⟨11, 0, none⟩ = some er) :
    Calls Tryd.prog 43 #[.slice a xs.length c, .slice b ys.length d, .int .i64 v] w (Refused w er) := by
  have t1 : decide (v < 1) = false := by simp; omega
  have t2 : decide (20000 < v) = false := by simp; omega
  have HX := Lib.hid hx
  have HY := Lib.hid hy
  have HG := Lib.hid hg
  have hv1 := hv.1
  have hv2 := hv.2
  clear hx hy hg hv
  go_enter Tryd.func43, Tryd.ntmps43
  go_wp2_with fail
  refine (right_any a c xs w HX.out).mono ?_
  rintro e w1 ⟨rfl, hb1⟩
  have HB1 := Lib.hid hb1
  clear hb1
  rw [r1]
  have hcell := (HB1.out.cell (p := ⟨11, 0, none⟩) (World.block_lt_of_cell? w _ HG.out)).trans HG.out
  go_wp2
  go_quiet (fail)
  go_wp2
  go_ret2
  exact ⟨rfl, HB1.out.trans (bDrewN _ _ _)⟩
theorem resolve_none2 (a b : Option Addr) (c d : Nat) (xs ys : List Int) (v : Int) (er : Value) (w : World) (hv : 1 ≤ v ∧ v ≤ 20000) (hx : Ints w a xs) (hy : Ints w b ys) (r1 : M.right xs = true) (r2 : M.right ys = false) (hg : w.cell? ⟨11, 0, none⟩ = some er) :
    Calls Tryd.prog 43 #[.slice a xs.length c, .slice b ys.length d, .int .i64 v] w (Refused w er) := by
  have t1 : decide (v < 1) = false := by simp; omega
  have t2 : decide (20000 < v) = false := by simp; omega
  have HX := Lib.hid hx
  have HY := Lib.hid hy
  have HG := Lib.hid hg
  have hv1 := hv.1
  have hv2 := hv.2
  clear hx hy hg hv
  go_enter Tryd.func43, Tryd.ntmps43
  go_wp2_with fail
  refine (right_any a c xs w HX.out).mono ?_
  rintro e w1 ⟨rfl, hb1⟩
  have HB1 := Lib.hid hb1
  clear hb1
  rw [r1]
  go_wp2_with fail
  refine (right_any b d ys w1 (HY.out.below HB1.out)).mono ?_
  rintro e w2 ⟨rfl, hb2⟩
  have HB2 := Lib.hid (HB1.out.trans (hb2.mono HB1.out.size))
  clear hb2
  rw [r2]
  have hcell := (HB2.out.cell (p := ⟨11, 0, none⟩) (World.block_lt_of_cell? w _ HG.out)).trans HG.out
  go_wp2
  go_quiet (fail)
  go_wp2
  go_ret2
  exact ⟨rfl, HB2.out.trans (bDrewN _ _ _)⟩
theorem resolve_none3 (a b : Option Addr) (c d : Nat) (xs ys : List Int) (v : Int) (er : Value) (w : World) (hv : 1 ≤ v ∧ v ≤ 20000) (hx : Ints w a xs) (hy : Ints w b ys) (r1 : M.right xs = true) (r2 : M.right ys = true) (r3 : M.inn xs v = false) (hg : w.cell? ⟨11, 0, none⟩ = some er) :
    Calls Tryd.prog 43 #[.slice a xs.length c, .slice b ys.length d, .int .i64 v] w (Refused w er) := by
  have t1 : decide (v < 1) = false := by simp; omega
  have t2 : decide (20000 < v) = false := by simp; omega
  have HX := Lib.hid hx
  have HY := Lib.hid hy
  have HG := Lib.hid hg
  have hv1 := hv.1
  have hv2 := hv.2
  clear hx hy hg hv
  go_enter Tryd.func43, Tryd.ntmps43
  go_wp2_with fail
  refine (right_any a c xs w HX.out).mono ?_
  rintro e w1 ⟨rfl, hb1⟩
  have HB1 := Lib.hid hb1
  clear hb1
  rw [r1]
  go_wp2_with fail
  refine (right_any b d ys w1 (HY.out.below HB1.out)).mono ?_
  rintro e w2 ⟨rfl, hb2⟩
  have HB2 := Lib.hid (HB1.out.trans (hb2.mono HB1.out.size))
  clear hb2
  rw [r2]
  go_wp2_with fail
  refine (contains_any a c xs v w2 (HX.out.below HB2.out)).mono ?_
  rintro e w3 ⟨rfl, rfl⟩
  rw [r3]
  have hcell := (HB2.out.cell (p := ⟨11, 0, none⟩) (World.block_lt_of_cell? w _ HG.out)).trans HG.out
  go_wp2
  go_quiet (fail)
  go_wp2
  go_ret2
  exact ⟨rfl, HB2.out.trans (bDrewN _ _ _)⟩
theorem resolve_none4 (a b : Option Addr) (c d : Nat) (xs ys : List Int) (v : Int) (er : Value) (w : World) (hv : 1 ≤ v ∧ v ≤ 20000) (hx : Ints w a xs) (hy : Ints w b ys) (r1 : M.right xs = true) (r2 : M.right ys = true) (r3 : M.inn xs v = true) (r4 : M.inn ys (-v) = false) (hg : w.cell? ⟨11, 0, none⟩ = some er) :
    Calls Tryd.prog 43 #[.slice a xs.length c, .slice b ys.length d, .int .i64 v] w (Refused w er) := by
  have t1 : decide (v < 1) = false := by simp; omega
  have t2 : decide (20000 < v) = false := by simp; omega
  have HX := Lib.hid hx
  have HY := Lib.hid hy
  have HG := Lib.hid hg
  have hv1 := hv.1
  have hv2 := hv.2
  clear hx hy hg hv
  go_enter Tryd.func43, Tryd.ntmps43
  go_wp2_with fail
  refine (right_any a c xs w HX.out).mono ?_
  rintro e w1 ⟨rfl, hb1⟩
  have HB1 := Lib.hid hb1
  clear hb1
  rw [r1]
  go_wp2_with fail
  refine (right_any b d ys w1 (HY.out.below HB1.out)).mono ?_
  rintro e w2 ⟨rfl, hb2⟩
  have HB2 := Lib.hid (HB1.out.trans (hb2.mono HB1.out.size))
  clear hb2
  rw [r2]
  go_wp2_with fail
  refine (contains_any a c xs v w2 (HX.out.below HB2.out)).mono ?_
  rintro e w3 ⟨rfl, rfl⟩
  rw [r3]
  go_wp2_with fail
  refine (contains_any b d ys (-v) w2 (HY.out.below HB2.out)).mono ?_
  rintro e w3 ⟨rfl, rfl⟩
  rw [r4]
  have hcell := (HB2.out.cell (p := ⟨11, 0, none⟩) (World.block_lt_of_cell? w _ HG.out)).trans HG.out
  go_wp2
  go_quiet (fail)
  go_wp2
  go_ret2
  exact ⟨rfl, HB2.out.trans (bDrewN _ _ _)⟩
theorem M.flt_keep {zs : List Int} {k : Nat} {z v : Int} (h : zs[k]? = some z) (hz : (z != v) = true) : (zs.take (k + 1)).filter (· != v) = (zs.take k).filter (· != v) ++ [z] := by
  rw [List.take_add_one, h]; simp [List.filter_append, hz]
theorem M.flt_drop {zs : List Int} {k : Nat} {z v : Int} (h : zs[k]? = some z) (hz : (z != v) = false) : (zs.take (k + 1)).filter (· != v) = (zs.take k).filter (· != v) := by
  rw [List.take_add_one, h]; simp [List.filter_append, hz]
set_option maxHeartbeats 2000000 in
theorem resolve_ok (a b : Option Addr) (c d : Nat) (xs ys : List Int) (v : Int) (w : World) (hv : 1 ≤ v ∧ v ≤ 20000) (hx : Ints w a xs) (hy : Ints w b ys) (r1 : M.right xs = true) (r2 : M.right ys = true) (r3 : M.inn xs v = true) (r4 : M.inn ys (-v) = true) (hxs : xs.length ≤ 1000000) (hys : ys.length ≤ 1000000) :
    Calls Tryd.prog 43 #[.slice a xs.length c, .slice b ys.length d, .int .i64 v] w (NormOk w (M.resolve xs ys v)) := by
  have t1 : decide (v < 1) = false := by simp; omega
  have t2 : decide (20000 < v) = false := by simp; omega
  have HX := Lib.hid hx
  have HY := Lib.hid hy
  have hv1 := hv.1
  have hv2 := hv.2
  have HLX := Lib.hid ((M.right_iff xs).1 r1).1
  have HLY := Lib.hid ((M.right_iff ys).1 r2).1
  clear hx hy hv
  go_enter Tryd.func43, Tryd.ntmps43
  go_wp2_with fail
  refine (right_any a c xs w HX.out).mono ?_
  rintro e w1 ⟨rfl, hb1⟩
  have HB1 := Lib.hid hb1
  clear hb1
  rw [r1]
  go_wp2_with fail
  refine (right_any b d ys w1 (HY.out.below HB1.out)).mono ?_
  rintro e w2 ⟨rfl, hb2⟩
  have HB2 := Lib.hid (HB1.out.trans (hb2.mono HB1.out.size))
  clear hb2
  rw [r2]
  go_wp2_with fail
  refine (contains_any a c xs v w2 (HX.out.below HB2.out)).mono ?_
  rintro e w3 ⟨rfl, rfl⟩
  rw [r3]
  go_wp2_with fail
  refine (contains_any b d ys (-v) w2 (HY.out.below HB2.out)).mono ?_
  rintro e w3 ⟨rfl, rfl⟩
  rw [r4]
  clear r1 r2 r3 r4 t1 t2
  have hlx := HX.out.len
  have hly := HY.out.len
  go_wp2
  go_loopw [8, 10, 44] (fun l _ i wr => ∃ (k n : Nat) (a' : Option Addr) (c' : Nat), k ≤ xs.length ∧ i = .int .i64 k ∧ n = ((xs.take k).filter (· != v)).length ∧ l = .slice a' n c' ∧ OwnI wr w.heap.size a' c' ((xs.take k).filter (· != v)) ∧ Below w.heap.size w wr) (fun _ _ i _ => xs.length - (intOf i).toNat)
  case atStart => exact ⟨0, 0, none, 0, Nat.zero_le _, rfl, rfl, rfl, OwnI.nil _ _, HB2.out⟩
  case round =>
    obtain ⟨k, n, a', c', hk, rfl, hn, rfl, ho, hb⟩ := hrel
    have hnl : n ≤ k := by
      rw [hn]; exact Nat.le_trans (List.length_filter_le _ _) (List.length_take_le _ _)
    have HN := Lib.hid hn
    have HO := Lib.hid ho
    have HB := Lib.hid hb
    clear hn ho hb
    by_cases hlt : k < xs.length
    · obtain ⟨bb, off, rfl, hbl, hc⟩ := (HX.out.below HB.out).addr (by omega)
      obtain ⟨z, hzk⟩ : ∃ z, xs[k]? = some z := ⟨xs[k], by simp [hlt]⟩
      have hcell := hc k z hzk
      have HZ := Lib.hid hzk
      have hlz := HLX.out z (List.mem_of_getElem? hzk)
      clear hc hzk
      cases hne : (z != v)
      · go_wp2
        go_roundw
        case rel => exact ⟨k + 1, n, a', c', by omega, by go_num, by rw [M.flt_drop HZ.out hne]; exact HN.out, rfl, by rw [M.flt_drop HZ.out hne]; exact HO.out, HB.out⟩
        case measure => simp [intOf]; omega
      · go_wp2_with (at_builtin; refine wpList_append_Ints rfl (.tmp 51) (.tmp 53) 27 rfl Tryd.underlying27 w.heap.size _ _ _ ((xs.take k).filter (· != v)) rfl HN.out.symm (OwnI.alloc HO.out _) _ _ _ [z] rfl rfl (Ints.one wr z (I64.of_lit hlz) _) (fun h => by cases h) (by omega) (put_size1 HB.out) ?_; intro a2 c2 w4 hown2 hg2 hB2; have HB4 := Lib.hid (put_below2 HB.out hB2); have HO4 := Lib.hid hown2; clear hg2 hown2 hB2)
        go_roundw
        case rel => exact ⟨k + 1, n + 1, a2, c2, by omega, by go_num, by rw [M.flt_keep HZ.out hne, List.length_append, ← HN.out]; rfl, rfl, by rw [M.flt_keep HZ.out hne]; exact HO4.out, HB4.out⟩
        case measure => simp [intOf]; omega
    · have hfx : (xs.take k).filter (· != v) = xs.filter (· != v) := by rw [List.take_of_length_le (by omega)]
      rw [hfx] at HN HO
      clear hfx
      go_wp2
      go_loopw [8, 12, 58] (fun l _ i wr => ∃ (k n : Nat) (a' : Option Addr) (c' : Nat), k ≤ ys.length ∧ i = .int .i64 k ∧ n = (xs.filter (· != v) ++ (ys.take k).filter (· != -v)).length ∧ l = .slice a' n c' ∧ OwnI wr w.heap.size a' c' (xs.filter (· != v) ++ (ys.take k).filter (· != -v)) ∧ Below w.heap.size w wr) (fun _ _ i _ => ys.length - (intOf i).toNat)
      case atStart => exact ⟨0, n, a', c', Nat.zero_le _, rfl, by simpa using HN.out, rfl, by simpa using HO.out, HB.out⟩
      case round =>
        obtain ⟨t, m, a3, c3, ht, rfl, hm, rfl, ho3, hb3⟩ := hrel
        have hml : m ≤ xs.length + t := by
          rw [hm, List.length_append]
          have h1 := List.length_filter_le (· != v) xs
          have h2 := Nat.le_trans (List.length_filter_le (· != -v) (ys.take t)) (List.length_take_le _ _)
          omega
        have HM := Lib.hid hm
        have HO3 := Lib.hid ho3
        have HB3 := Lib.hid hb3
        clear hm ho3 hb3
        by_cases htl : t < ys.length
        · obtain ⟨bb, off, rfl, hbl, hc⟩ := (HY.out.below HB3.out).addr (by omega)
          obtain ⟨z, hzk⟩ : ∃ z, ys[t]? = some z := ⟨ys[t], by simp [htl]⟩
          have hcell := hc t z hzk
          have HZ := Lib.hid hzk
          have hlz := HLY.out z (List.mem_of_getElem? hzk)
          clear hc hzk
          cases hne : (z != -v)
          · go_wp2
            go_roundw
            case rel => exact ⟨t + 1, m, a3, c3, by omega, by go_num, by rw [M.flt_drop HZ.out hne]; exact HM.out, rfl, by rw [M.flt_drop HZ.out hne]; exact HO3.out, HB3.out⟩
            case measure => simp [intOf]; omega
          · go_wp2_with (at_builtin; refine wpList_append_Ints rfl (.tmp 66) (.tmp 68) 27 rfl Tryd.underlying27 w.heap.size _ _ _ (xs.filter (· != v) ++ (ys.take t).filter (· != -v)) rfl HM.out.symm (OwnI.alloc HO3.out _) _ _ _ [z] rfl rfl (Ints.one wr z (I64.of_lit hlz) _) (fun h => by cases h) (by omega) (put_size1 HB3.out) ?_; intro a2 c2 w4 hown2 hg2 hB2; have HB4 := Lib.hid (put_below2 HB3.out hB2); have HO4 := Lib.hid hown2; clear hg2 hown2 hB2)
            go_roundw
            case rel => exact ⟨t + 1, m + 1, a2, c2, by omega, by go_num, by rw [M.flt_keep HZ.out hne, ← List.append_assoc, List.length_append, ← HM.out]; rfl, rfl, by rw [M.flt_keep HZ.out hne, ← List.append_assoc]; exact HO4.out, HB4.out⟩
            case measure => simp [intOf]; omega
        · have hfy : (ys.take t).filter (· != -v) = ys.filter (· != -v) := by rw [List.take_of_length_le (by omega)]
          rw [hfy] at HM HO3
          have hlits : ∀ z ∈ xs.filter (· != v) ++ ys.filter (· != -v), M.isLit z = true := fun z hz => by
            rcases List.mem_append.1 hz with h | h
            · exact HLX.out z (List.mem_filter.1 h).1
            · exact HLY.out z (List.mem_filter.1 h).1
          have hsr := sorted_any a3 c3 (xs.filter (· != v) ++ ys.filter (· != -v)) wr (HO3.out.ints (fun z hz => I64.of_lit (hlits z hz)) (by rw [← HM.out]; omega)) hlits
          rw [← HM.out] at hsr
          have HSR := Lib.hid hsr
          clear hfy hlits hsr
          go_wp2_with fail
          refine HSR.out.mono ?_
          rintro e w5 ⟨a5, c5, rfl, s1, s2, s3, s4, s5⟩
          have HS1 := Lib.hid s1
          have HS3 := Lib.hid s3
          have HB5 := Lib.hid (HB3.out.trans (s4.mono HB3.out.size))
          have HS5 := Lib.hid (TagN.mk (n := w.heap.size) (fun ad e => Nat.le_trans HB3.out.size (s5.new ad e)) s5.tag)
          clear s1 s3 s4 s5
          go_wp2
          go_ret2
          exact ⟨a5, c5, rfl, HS1.out, s2, HS3.out, HB5.out, HS5.out⟩
end Go.Proofs.YtdppmmimemmedaaDoor

/- The walk of haversacklaw14.LitsResolves, given that the chapter's examples hold. -/
import Derived.Test.YtdppmmimemmedaaDoorTrueLaw
import Derived.Test.YtdppmmimemmedaaDoorResolve
import Derived.Test.YtdppmmimemmedaaDoorNum
namespace Go.Proofs.YtdppmmimemmedaaDoor
open Go.RowKit

theorem M.resolve_fold (xs ys : List Int) (v : Int) : M.resolve xs ys v = (ys.filter (· != -v)).foldl M.put (M.norm (xs.filter (· != v))) := by
  unfold M.resolve M.norm; rw [List.foldl_append]
theorem M.fold_keep {acc zs : List Int} {k : Nat} {z v : Int} (h : zs[k]? = some z) (hz : (z != v) = true) : ((zs.take (k + 1)).filter (· != v)).foldl M.put acc = M.put (((zs.take k).filter (· != v)).foldl M.put acc) z := by
  rw [M.flt_keep h hz]; simp [List.foldl_append]
theorem M.fold_drop {acc zs : List Int} {k : Nat} {z v : Int} (h : zs[k]? = some z) (hz : (z != v) = false) : ((zs.take (k + 1)).filter (· != v)).foldl M.put acc = ((zs.take k).filter (· != v)).foldl M.put acc := by
  rw [M.flt_drop h hz]
theorem M.fold_len (acc l : List Int) : (l.foldl M.put acc).length ≤ acc.length + l.length := by
  induction l generalizing acc with
  | nil => simp
  | cons z l ih => have := ih (M.put acc z); have := M.put_length acc z; simp; omega
/-- a list that is put together -/
structure PutL (w : World) (wr : World) (a : Option Addr) (c : Nat) (l : List Int) : Prop where
  ints : Ints wr a l
  cap : l.length ≤ c
  none' : a = none → c = 0
  lits : ∀ z ∈ l, M.isLit z = true
  below : Below w.heap.size w wr
theorem PutL.step {w wr : World} {a : Option Addr} {c : Nat} {l : List Int} (h : PutL w wr a c l) {z : Int} (hz : M.isLit z = true) (hs : l.length ≤ 1000) :
    Calls Tryd.prog 51 #[.slice a l.length c, .int .i64 z] wr fun e w' => ∃ a' c', e = .returned (.slice a' (M.put l z).length c') ∧ PutL w w' a' c' (M.put l z) := by
  refine (put_any a c l z wr h.ints h.cap h.none' h.lits hz (by omega)).mono ?_
  rintro e w' ⟨a', c', rfl, i1, i2, i3, i4⟩
  refine ⟨a', c', rfl, i1, i2, i3, fun y hy => ?_, h.below.trans (i4.mono h.below.size)⟩
  rcases (M.mem_put l z y).1 hy with rfl | hy
  · exact hz
  · exact h.lits y hy
set_option maxHeartbeats 4000000 in
set_option maxRecDepth 100000 in
theorem resolvesLaw (hA : Alive14) (a : Option Addr) (c : Nat) (xs : List Int) (b : Option Addr) (d : Nat) (ys : List Int) (v : Int) (A : Nat → Addr) (w : World) (hx : Ints w a xs) (hy : Ints w b ys) (hE : Errs w A) :
    Calls Tryd.prog 12 #[.slice a xs.length c, .slice b ys.length d, .int .i64 v] w fun e w' => e = .returned (.bool true) ∧ Below w.heap.size w w' := by
  have hlx := hx.len
  have hly := hy.len
  have HX := Lib.hid hx
  have HY := Lib.hid hy
  have HE := Lib.hid hE
  have HA := Lib.hid (hA w)
  clear hx hy hE hA
  go_enter Tryd.func12, Tryd.ntmps12
  go_wp2_with fail
  refine HA.out.mono ?_
  rintro e W0 ⟨rfl, hb0⟩
  have HB0 := Lib.hid hb0
  have HX0 := Lib.hid (HX.out.below hb0)
  have HY0 := Lib.hid (HY.out.below hb0)
  have HE0 := Lib.hid (HE.out.below hb0)
  clear hb0 HA
  by_cases h1 : 60 < xs.length
  · have t1 : decide ((60 : Int) < (xs.length : Int)) = true := by simp; omega
    go_wp2
    go_ret
    exact ⟨rfl, HB0.out⟩
  have t1 : decide ((60 : Int) < (xs.length : Int)) = false := by simp; omega
  by_cases h2 : 60 < ys.length
  · have t2 : decide ((60 : Int) < (ys.length : Int)) = true := by simp; omega
    go_wp2
    go_ret
    exact ⟨rfl, HB0.out⟩
  have t2 : decide ((60 : Int) < (ys.length : Int)) = false := by simp; omega
  by_cases hv : v < 1 ∨ 20000 < v
  · have hr := resolve_range a b c d xs ys v _ W0 hv (HE0.out.at' 9 _ rfl).cell
    unfold errAt at hr
    have HR := Lib.hid hr
    clear hr
    go_wp2_with fail
    refine HR.out.mono ?_
    rintro e W1 hr1
    obtain ⟨rfl, hb1⟩ := hr1
    have hb01 : Below w.heap.size w W1 := HB0.out.trans (hb1.mono HB0.out.size)
    have hn := num_err A 9 W1 (by omega) (HE.out.below hb01)
    unfold errAt at hn
    have HNU := Lib.hid hn
    have HB1 := Lib.hid hb01
    have HB01 := Lib.hid hb1
    clear hb1 hn hb01
    by_cases hv1 : v < 1
    · have t3 : decide (v < 1) = true := by simpa using hv1
      clear hv
      go_wp2_with (go_at_call 42; refine HNU.out.mono ?_; rintro e W2 ⟨rfl, hb2⟩; have HB2 := Lib.hid (HB1.out.trans (hb2.mono HB1.out.size)); clear hb2)
      go_ret
      exact ⟨rfl, HB2.out⟩
    · have t3 : decide (v < 1) = false := by simpa using hv1
      have t4 : decide (20000 < v) = true := by simp; omega
      clear hv
      go_wp2_with (go_at_call 42; refine HNU.out.mono ?_; rintro e W2 ⟨rfl, hb2⟩; have HB2 := Lib.hid (HB1.out.trans (hb2.mono HB1.out.size)); clear hb2)
      go_ret
      exact ⟨rfl, HB2.out⟩
  have hv1 : 1 ≤ v := by omega
  have hv2 : v ≤ 20000 := by omega
  have t3 : decide (v < 1) = false := by simp; omega
  have t4 : decide (20000 < v) = false := by simp; omega
  clear hv
  cases r1 : M.right xs
  · have hr := resolve_none1 a b c d xs ys v _ W0 ⟨hv1, hv2⟩ HX0.out HY0.out r1 (HE0.out.at' 10 _ rfl).cell
    unfold errAt at hr
    have HR := Lib.hid hr
    clear hr
    go_wp2_with fail
    refine HR.out.mono ?_
    rintro e W1 hr1
    obtain ⟨rfl, hb1⟩ := hr1
    have hb01 : Below w.heap.size w W1 := HB0.out.trans (hb1.mono HB0.out.size)
    have hn := num_err A 10 W1 (by omega) (HE.out.below hb01)
    unfold errAt at hn
    have HNU := Lib.hid hn
    have HB1 := Lib.hid hb01
    have HB01 := Lib.hid hb1
    clear hb1 hn hb01
    have HX1 := Lib.hid (HX0.out.below HB01.out)
    have HY1 := Lib.hid (HY0.out.below HB01.out)
    have hra := rright_any a c xs W1 HX1.out (by omega)
    have HRA := Lib.hid hra
    clear hra
    go_wp2_with fail
    refine HRA.out.mono ?_
    rintro e W2 ⟨rfl, hb2⟩
    rw [r1]
    have HB2 := Lib.hid (HB1.out.trans (hb2.mono HB1.out.size))
    have HX2 := Lib.hid (HX1.out.below hb2)
    have HY2 := Lib.hid (HY1.out.below hb2)
    clear hb2 HNU
    have hn := num_err A 10 W2 (by omega) (HE.out.below HB2.out)
    unfold errAt at hn
    have HNU := Lib.hid hn
    clear hn
    go_wp2_with fail
    refine HNU.out.mono ?_
    rintro e W5 ⟨rfl, hb5⟩
    have HB5 := Lib.hid (HB2.out.trans (hb5.mono HB2.out.size))
    clear hb5
    go_wp2
    go_ret
    exact ⟨rfl, HB5.out⟩
  cases r2 : M.right ys
  · have hr := resolve_none2 a b c d xs ys v _ W0 ⟨hv1, hv2⟩ HX0.out HY0.out r1 r2 (HE0.out.at' 10 _ rfl).cell
    unfold errAt at hr
    have HR := Lib.hid hr
    clear hr
    go_wp2_with fail
    refine HR.out.mono ?_
    rintro e W1 hr1
    obtain ⟨rfl, hb1⟩ := hr1
    have hb01 : Below w.heap.size w W1 := HB0.out.trans (hb1.mono HB0.out.size)
    have hn := num_err A 10 W1 (by omega) (HE.out.below hb01)
    unfold errAt at hn
    have HNU := Lib.hid hn
    have HB1 := Lib.hid hb01
    have HB01 := Lib.hid hb1
    clear hb1 hn hb01
    have HX1 := Lib.hid (HX0.out.below HB01.out)
    have HY1 := Lib.hid (HY0.out.below HB01.out)
    have hra := rright_any a c xs W1 HX1.out (by omega)
    have HRA := Lib.hid hra
    clear hra
    go_wp2_with fail
    refine HRA.out.mono ?_
    rintro e W2 ⟨rfl, hb2⟩
    rw [r1]
    have HB2 := Lib.hid (HB1.out.trans (hb2.mono HB1.out.size))
    have HX2 := Lib.hid (HX1.out.below hb2)
    have HY2 := Lib.hid (HY1.out.below hb2)
    clear hb2 HNU
    have hrb := rright_any b d ys W2 HY2.out (by omega)
    have HRB := Lib.hid hrb
    clear hrb
    go_wp2_with fail
    refine HRB.out.mono ?_
    rintro e W3 ⟨rfl, hb3⟩
    rw [r2]
    have HB3 := Lib.hid (HB2.out.trans (hb3.mono HB2.out.size))
    have HX3 := Lib.hid (HX2.out.below hb3)
    have HY3 := Lib.hid (HY2.out.below hb3)
    clear hb3
    have hn := num_err A 10 W3 (by omega) (HE.out.below HB3.out)
    unfold errAt at hn
    have HNU := Lib.hid hn
    clear hn
    go_wp2_with fail
    refine HNU.out.mono ?_
    rintro e W5 ⟨rfl, hb5⟩
    have HB5 := Lib.hid (HB3.out.trans (hb5.mono HB3.out.size))
    clear hb5
    go_wp2
    go_ret
    exact ⟨rfl, HB5.out⟩
  cases r3 : M.inn xs v
  · have hr := resolve_none3 a b c d xs ys v _ W0 ⟨hv1, hv2⟩ HX0.out HY0.out r1 r2 r3 (HE0.out.at' 10 _ rfl).cell
    unfold errAt at hr
    have HR := Lib.hid hr
    clear hr
    go_wp2_with fail
    refine HR.out.mono ?_
    rintro e W1 hr1
    obtain ⟨rfl, hb1⟩ := hr1
    have hb01 : Below w.heap.size w W1 := HB0.out.trans (hb1.mono HB0.out.size)
    have hn := num_err A 10 W1 (by omega) (HE.out.below hb01)
    unfold errAt at hn
    have HNU := Lib.hid hn
    have HB1 := Lib.hid hb01
    have HB01 := Lib.hid hb1
    clear hb1 hn hb01
    have HX1 := Lib.hid (HX0.out.below HB01.out)
    have HY1 := Lib.hid (HY0.out.below HB01.out)
    have hra := rright_any a c xs W1 HX1.out (by omega)
    have HRA := Lib.hid hra
    clear hra
    go_wp2_with fail
    refine HRA.out.mono ?_
    rintro e W2 ⟨rfl, hb2⟩
    rw [r1]
    have HB2 := Lib.hid (HB1.out.trans (hb2.mono HB1.out.size))
    have HX2 := Lib.hid (HX1.out.below hb2)
    have HY2 := Lib.hid (HY1.out.below hb2)
    clear hb2 HNU
    have hrb := rright_any b d ys W2 HY2.out (by omega)
    have HRB := Lib.hid hrb
    clear hrb
    go_wp2_with fail
    refine HRB.out.mono ?_
    rintro e W3 ⟨rfl, hb3⟩
    rw [r2]
    have HB3 := Lib.hid (HB2.out.trans (hb3.mono HB2.out.size))
    have HX3 := Lib.hid (HX2.out.below hb3)
    have HY3 := Lib.hid (HY2.out.below hb3)
    clear hb3
    go_wp2_with fail
    refine (in_any a c xs v W3 HX3.out).mono ?_
    rintro e W3a ⟨rfl, rfl⟩
    rw [r3]
    have hn := num_err A 10 W3 (by omega) (HE.out.below HB3.out)
    unfold errAt at hn
    have HNU := Lib.hid hn
    clear hn
    go_wp2_with fail
    refine HNU.out.mono ?_
    rintro e W5 ⟨rfl, hb5⟩
    have HB5 := Lib.hid (HB3.out.trans (hb5.mono HB3.out.size))
    clear hb5
    go_wp2
    go_ret
    exact ⟨rfl, HB5.out⟩
  cases r4 : M.inn ys (-v)
  · have hr := resolve_none4 a b c d xs ys v _ W0 ⟨hv1, hv2⟩ HX0.out HY0.out r1 r2 r3 r4 (HE0.out.at' 10 _ rfl).cell
    unfold errAt at hr
    have HR := Lib.hid hr
    clear hr
    go_wp2_with fail
    refine HR.out.mono ?_
    rintro e W1 hr1
    obtain ⟨rfl, hb1⟩ := hr1
    have hb01 : Below w.heap.size w W1 := HB0.out.trans (hb1.mono HB0.out.size)
    have hn := num_err A 10 W1 (by omega) (HE.out.below hb01)
    unfold errAt at hn
    have HNU := Lib.hid hn
    have HB1 := Lib.hid hb01
    have HB01 := Lib.hid hb1
    clear hb1 hn hb01
    have HX1 := Lib.hid (HX0.out.below HB01.out)
    have HY1 := Lib.hid (HY0.out.below HB01.out)
    have hra := rright_any a c xs W1 HX1.out (by omega)
    have HRA := Lib.hid hra
    clear hra
    go_wp2_with fail
    refine HRA.out.mono ?_
    rintro e W2 ⟨rfl, hb2⟩
    rw [r1]
    have HB2 := Lib.hid (HB1.out.trans (hb2.mono HB1.out.size))
    have HX2 := Lib.hid (HX1.out.below hb2)
    have HY2 := Lib.hid (HY1.out.below hb2)
    clear hb2 HNU
    have hrb := rright_any b d ys W2 HY2.out (by omega)
    have HRB := Lib.hid hrb
    clear hrb
    go_wp2_with fail
    refine HRB.out.mono ?_
    rintro e W3 ⟨rfl, hb3⟩
    rw [r2]
    have HB3 := Lib.hid (HB2.out.trans (hb3.mono HB2.out.size))
    have HX3 := Lib.hid (HX2.out.below hb3)
    have HY3 := Lib.hid (HY2.out.below hb3)
    clear hb3
    go_wp2_with fail
    refine (in_any a c xs v W3 HX3.out).mono ?_
    rintro e W3a ⟨rfl, rfl⟩
    rw [r3]
    go_wp2_with fail
    refine (in_any b d ys (-v) W3 HY3.out).mono ?_
    rintro e W3b ⟨rfl, rfl⟩
    rw [r4]
    have hn := num_err A 10 W3 (by omega) (HE.out.below HB3.out)
    unfold errAt at hn
    have HNU := Lib.hid hn
    clear hn
    go_wp2_with fail
    refine HNU.out.mono ?_
    rintro e W5 ⟨rfl, hb5⟩
    have HB5 := Lib.hid (HB3.out.trans (hb5.mono HB3.out.size))
    clear hb5
    go_wp2
    go_ret
    exact ⟨rfl, HB5.out⟩
  have hr := resolve_ok a b c d xs ys v W0 ⟨hv1, hv2⟩ HX0.out HY0.out r1 r2 r3 r4 (by omega) (by omega)
  have HR := Lib.hid hr
  clear hr
  go_wp2_with fail
  refine HR.out.mono ?_
  rintro e W1 ⟨a1, c1, rfl, s1, s2, s3, s4, s5⟩
  have HB1 := Lib.hid (HB0.out.trans (s4.mono HB0.out.size))
  have HS1 := Lib.hid s1
  have HX1 := Lib.hid (HX0.out.below s4)
  have HY1 := Lib.hid (HY0.out.below s4)
  have HLX := Lib.hid ((M.right_iff xs).1 r1).1
  have HLY := Lib.hid ((M.right_iff ys).1 r2).1
  have hrsl : (M.resolve xs ys v).length ≤ 1000 := by
    have h1 := M.norm_length (xs.filter (· != v) ++ ys.filter (· != -v))
    have h2 := List.length_filter_le (· != v) xs
    have h3 := List.length_filter_le (· != -v) ys
    rw [List.length_append] at h1
    unfold M.resolve; omega
  clear s1 s3 s4 s5 s2 HR
  have hra := rright_any a c xs W1 HX1.out (by omega)
  have HRA := Lib.hid hra
  clear hra
  go_wp2_with fail
  refine HRA.out.mono ?_
  rintro e W2 ⟨rfl, hb2⟩
  rw [r1]
  have HB2 := Lib.hid (HB1.out.trans (hb2.mono HB1.out.size))
  have HX2 := Lib.hid (HX1.out.below hb2)
  have HY2 := Lib.hid (HY1.out.below hb2)
  have HS2 := Lib.hid (HS1.out.below hb2)
  clear hb2 HRA
  have hrb := rright_any b d ys W2 HY2.out (by omega)
  have HRB := Lib.hid hrb
  clear hrb
  go_wp2_with fail
  refine HRB.out.mono ?_
  rintro e W3 ⟨rfl, hb3⟩
  rw [r2]
  have HB3 := Lib.hid (HB2.out.trans (hb3.mono HB2.out.size))
  have HX3 := Lib.hid (HX2.out.below hb3)
  have HY3 := Lib.hid (HY2.out.below hb3)
  have HS3 := Lib.hid (HS2.out.below hb3)
  clear hb3 HRB
  go_wp2_with fail
  refine (in_any a c xs v W3 HX3.out).mono ?_
  rintro e W3a ⟨rfl, rfl⟩
  rw [r3]
  go_wp2_with fail
  refine (in_any b d ys (-v) W3 HY3.out).mono ?_
  rintro e W3b ⟨rfl, rfl⟩
  rw [r4]
  have HFO := Lib.hid (M.resolve_fold xs ys v)
  generalize M.resolve xs ys v = rs at *
  clear r1 r2 r3 r4 t1 t2 t3 t4
  go_wp2
  go_loopw [9, 11, 77] (fun l _ i wr => ∃ (k n : Nat) (a' : Option Addr) (c' : Nat), k ≤ xs.length ∧ i = .int .i64 k ∧ n = (((xs.take k).filter (· != v)).foldl M.put []).length ∧ l = .slice a' n c' ∧ PutL W3 wr a' c' (((xs.take k).filter (· != v)).foldl M.put [])) (fun _ _ i _ => xs.length - (intOf i).toNat)
  case atStart => exact ⟨0, 0, _, 0, Nat.zero_le _, rfl, rfl, rfl, Ints.nil _ _, Nat.le_refl _, (fun h => by cases h), (fun z hz => by simp at hz), (Below.refl _ _).alloc (Nat.le_refl _) _⟩
  case round =>
    obtain ⟨k, n, a', c', hk, rfl, hn, rfl, hP⟩ := hrel
    have hnl : n ≤ 60 := by
      rw [hn]
      have h1 := M.fold_len [] ((xs.take k).filter (· != v))
      have h2 := Nat.le_trans (List.length_filter_le (· != v) (xs.take k)) (List.length_take_le _ _)
      simp only [List.length_nil] at h1
      omega
    have HN := Lib.hid hn
    have HP := Lib.hid hP
    clear hn hP
    by_cases hlt : k < xs.length
    · obtain ⟨bb, off, rfl, hbl, hc⟩ := (HX3.out.below HP.out.below).addr (by omega)
      obtain ⟨z, hzk⟩ : ∃ z, xs[k]? = some z := ⟨xs[k], by simp [hlt]⟩
      have hcell := hc k z hzk
      have HZ := Lib.hid hzk
      have hlz := HLX.out z (List.mem_of_getElem? hzk)
      clear hc hzk
      cases hne : (z != v)
      · go_wp2
        go_roundw
        case rel => exact ⟨k + 1, n, a', c', by omega, by go_num, by rw [M.fold_drop HZ.out hne]; exact HN.out, rfl, by rw [M.fold_drop HZ.out hne]; exact HP.out⟩
        case measure => simp [intOf]; omega
      · have hst := HP.out.step hlz (by rw [← HN.out]; omega)
        rw [← HN.out] at hst
        have HST := Lib.hid hst
        clear hst
        go_wp2_with (go_at_call 51; refine HST.out.mono ?_; rintro e w5 ⟨a5, c5, rfl, hP5⟩; have HP5 := Lib.hid hP5; clear hP5)
        go_roundw
        case rel => exact ⟨k + 1, _, a5, c5, by omega, by go_num, by rw [M.fold_keep HZ.out hne], rfl, by rw [M.fold_keep HZ.out hne]; exact HP5.out⟩
        case measure => simp [intOf]; omega
    · have hfx : (xs.take k).filter (· != v) = xs.filter (· != v) := by rw [List.take_of_length_le (by omega)]
      rw [hfx] at HN HP
      clear hfx
      have HFO2 := Lib.hid (show rs = (ys.filter (· != -v)).foldl M.put ((xs.filter (· != v)).foldl M.put []) from HFO.out)
      generalize (xs.filter (· != v)).foldl M.put [] = acc at *
      go_wp2
      go_loopw [9, 13, 90] (fun l _ i wr => ∃ (k n : Nat) (a' : Option Addr) (c' : Nat), k ≤ ys.length ∧ i = .int .i64 k ∧ n = (((ys.take k).filter (· != -v)).foldl M.put acc).length ∧ l = .slice a' n c' ∧ PutL W3 wr a' c' (((ys.take k).filter (· != -v)).foldl M.put acc)) (fun _ _ i _ => ys.length - (intOf i).toNat)
      case atStart => exact ⟨0, n, a', c', Nat.zero_le _, rfl, HN.out, rfl, HP.out⟩
      case round =>
        obtain ⟨t, m, a3, c3, ht, rfl, hm, rfl, hP3⟩ := hrel
        have hml : m ≤ 120 := by
          rw [hm]
          have h1 := M.fold_len acc ((ys.take t).filter (· != -v))
          have h2 := Nat.le_trans (List.length_filter_le (· != -v) (ys.take t)) (List.length_take_le _ _)
          have h3 := HN.out
          omega
        have HM := Lib.hid hm
        have HP3 := Lib.hid hP3
        clear hm hP3
        by_cases htl : t < ys.length
        · obtain ⟨bb, off, rfl, hbl, hc⟩ := (HY3.out.below HP3.out.below).addr (by omega)
          obtain ⟨z, hzk⟩ : ∃ z, ys[t]? = some z := ⟨ys[t], by simp [htl]⟩
          have hcell := hc t z hzk
          have HZ := Lib.hid hzk
          have hlz := HLY.out z (List.mem_of_getElem? hzk)
          clear hc hzk
          cases hne : (z != -v)
          · go_wp2
            go_roundw
            case rel => exact ⟨t + 1, m, a3, c3, by omega, by go_num, by rw [M.fold_drop HZ.out hne]; exact HM.out, rfl, by rw [M.fold_drop HZ.out hne]; exact HP3.out⟩
            case measure => simp [intOf]; omega
          · have hst := HP3.out.step hlz (by rw [← HM.out]; omega)
            rw [← HM.out] at hst
            have HST := Lib.hid hst
            clear hst
            go_wp2_with (go_at_call 51; refine HST.out.mono ?_; rintro e w5 ⟨a5, c5, rfl, hP5⟩; have HP5 := Lib.hid hP5; clear hP5)
            go_roundw
            case rel => exact ⟨t + 1, _, a5, c5, by omega, by go_num, by rw [M.fold_keep HZ.out hne], rfl, by rw [M.fold_keep HZ.out hne]; exact HP5.out⟩
            case measure => simp [intOf]; omega
        · have hfy : (ys.take t).filter (· != -v) = ys.filter (· != -v) := by rw [List.take_of_length_le (by omega)]
          rw [hfy, ← HFO2.out] at HM HP3
          have hsame := sameInts_any a1 c1 rs a3 c3 rs wr (HS3.out.below HP3.out.below) HP3.out.ints
          rw [(M.eqs_iff rs rs).2 rfl, ← HM.out] at hsame
          rw [← HM.out]
          have HSA := Lib.hid hsame
          have HB4 := Lib.hid (HB3.out.trans (HP3.out.below.mono HB3.out.size))
          clear hfy hsame
          go_wp2_with fail
          refine HSA.out.mono ?_
          rintro e w6 ⟨rfl, q, hq⟩
          have hb6 : Below w.heap.size w w6 := by rw [hq]; exact HB4.out.trans (bDrewN _ _ _)
          have HB6 := Lib.hid hb6
          clear hq hb6
          go_wp2
          go_ret
          exact ⟨rfl, HB6.out⟩
end Go.Proofs.YtdppmmimemmedaaDoor

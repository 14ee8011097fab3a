/- The guards of records answer, and leave memory as it was. -/
import Derived.Test.YtnmcajinaigcjaaGreatDoorQBig
import Derived.Test.YtnmcajinaigcjaaGreatDoorQFits
namespace Go.Proofs.YtnmcajinaigcjaaGreatDoor
open Go.RowKit
open Q (It Ver Tm Sp Rc Dm)

set_option maxHeartbeats 1000000 in
theorem long_any (fa : Option Addr) (fc : Nat) (fs : List ByteArray) (most : Int) (w : World) (hF : Strs w fa fs) (hm : -1000 ≤ most ∧ most ≤ 1000) :
    Calls Tryz.prog 50 #[.slice fa fs.length fc, .int .i64 most] w (SomeB w) := by
  have HF := Lib.hid hF
  have hl := hF.len
  obtain ⟨hm1, hm2⟩ := hm
  clear hF
  go_enter Tryz.func50, Tryz.ntmps50
  go_wp2
  go_loopw [5, 7, 10] (fun s _ i wr => ∃ (k : Nat) (n : Int), k ≤ fs.length ∧ i = .int .i64 k ∧ s = .int .i64 n ∧ (0 ≤ n ∧ n ≤ 1000) ∧ Below w.heap.size w wr) (fun _ _ i _ => fs.length - (intOf i).toNat)
  case atStart => exact ⟨0, 0, by omega, rfl, rfl, by omega, Below.refl _ _⟩
  case round =>
    obtain ⟨k, n, hk, rfl, rfl, ⟨hn1, hn2⟩, hbr⟩ := hrel
    have HB := Lib.hid hbr
    clear hbr
    by_cases hlt : k < fs.length
    · obtain ⟨s, hx⟩ : ∃ x, fs[k]? = some x := ⟨fs[k], by simp [hlt]⟩
      obtain ⟨b, off, rfl, hbl, hc⟩ := (HF.out.below HB.out).addr (by omega)
      obtain ⟨c0, hsz⟩ := hc k s hx
      unfold SzS at hsz
      clear hc hx
      by_cases h1 : most < (s.size : Int)
      · have d1 : decide (most < (s.size : Int)) = true := by simpa using h1
        go_wp2
        go_ret
        exact ⟨_, rfl, HB.out⟩
      · have d1 : decide (most < (s.size : Int)) = false := by simpa using h1
        by_cases h2 : most < n + (1 + (s.size : Int))
        · have d2 : decide (most < n + (1 + (s.size : Int))) = true := by simpa using h2
          go_wp2
          go_ret
          exact ⟨_, rfl, HB.out⟩
        · have d2 : decide (most < n + (1 + (s.size : Int))) = false := by simpa using h2
          go_wp2
          go_roundw
          case rel => exact ⟨k + 1, n + (1 + (s.size : Int)), by omega, by go_num, rfl, by omega, HB.out⟩
          case measure => simp [intOf]; omega
    · go_wp2
      go_ret
      exact ⟨_, rfl, HB.out⟩
/-- a record's value, all of it -/
structure RcAll (w : World) (r : Rc) (pa la da ca fa : Option Addr) (pc lc dc cc fc : Nat) : Prop where
  ver : VerAt w r.ver pa la pc lc
  deps : Sl RSp 5 w da r.deps
  cons : Sl RSp 5 w ca r.cons
  feats : Strs w fa r.feats
theorem RcAll.below {w w' : World} {r : Rc} {pa la da ca fa : Option Addr} {pc lc dc cc fc : Nat} (h : RcAll w r pa la da ca fa pc lc dc cc fc) (hb : Below w.heap.size w w') : RcAll w' r pa la da ca fa pc lc dc cc fc :=
  ⟨h.ver.below hb, h.deps.below stays_RSp hb, h.cons.below stays_RSp hb, h.feats.below hb⟩
def rcV (r : Rc) (pa la da ca fa : Option Addr) (pc lc dc cc fc : Nat) : Array Value := #[.string r.chan, .string r.file, .string r.name, .string r.text, .int .i64 r.ver.ep, .slice pa r.ver.parts.length pc, .slice la r.ver.loc.length lc, .string r.build, .int .i64 r.num, .int .i64 r.time, .slice da r.deps.length dc, .slice ca r.cons.length cc, .slice fa r.feats.length fc]
set_option maxHeartbeats 1000000 in
theorem bigRec_any (r : Rc) (pa la : Option Addr) (pc lc : Nat) (d1 d2 d3 : Value) (w : World) (hs : VerAt w r.ver pa la pc lc) :
    Calls Tryz.prog 49 #[.agg #[.string r.chan, .string r.file, .string r.name, .string r.text, .int .i64 r.ver.ep, .slice pa r.ver.parts.length pc, .slice la r.ver.loc.length lc, .string r.build, .int .i64 r.num, .int .i64 r.time, d1, d2, d3]] w (SomeB w) := by
  have HS := Lib.hid hs
  clear hs
  go_enter Tryz.func49, Tryz.ntmps49
  go_wp2_with ((go_at_call 78; (with_reducible refine (big07_any r.ver pa la pc lc _ (HS.out.below (b1 _ _))).mono ?_); rintro e w2 ⟨q, rfl, hb⟩; have HB := Lib.hid (fin (b1 _ _) hb); clear hb))
  all_goals
    go_ret
    exact ⟨_, rfl, (by first | exact HB.out | exact b1 _ _)⟩
set_option maxHeartbeats 4000000 in
set_option maxRecDepth 100000 in
theorem big10_any (r : Rc) (pa la da ca fa : Option Addr) (pc lc dc cc fc : Nat) (w : World) (hr : RcAll w r pa la da ca fa pc lc dc cc fc) :
    Calls Tryz.prog 23 #[.agg #[.string r.chan, .string r.file, .string r.name, .string r.text, .int .i64 r.ver.ep, .slice pa r.ver.parts.length pc, .slice la r.ver.loc.length lc, .string r.build, .int .i64 r.num, .int .i64 r.time, .slice da r.deps.length dc, .slice ca r.cons.length cc, .slice fa r.feats.length fc]] w (SomeB w) := by
  have HR := Lib.hid hr
  have hl1 := hr.deps.len
  have hl2 := hr.cons.len
  have hl3 := hr.feats.len
  clear hr
  go_enter Tryz.func23, Tryz.ntmps23
  go_wp2_with fail
  (with_reducible refine (bigRec_any r pa la pc lc _ _ _ _ (HR.out.below (b1 _ _)).ver).mono ?_)
  rintro e w2 ⟨q, rfl, hb⟩
  have k1 : w2.cell? ⟨w.heap.size, 1, none⟩ = some (.string r.file) := (hb.cell (p := ⟨w.heap.size, 1, none⟩) (by simp)).trans (by simp)
  have k3 : w2.cell? ⟨w.heap.size, 3, none⟩ = some (.string r.text) := (hb.cell (p := ⟨w.heap.size, 3, none⟩) (by simp)).trans (by simp)
  have k10 : w2.cell? ⟨w.heap.size, 10, none⟩ = some (.slice da r.deps.length dc) := (hb.cell (p := ⟨w.heap.size, 10, none⟩) (by simp)).trans (by simp)
  have k11 : w2.cell? ⟨w.heap.size, 11, none⟩ = some (.slice ca r.cons.length cc) := (hb.cell (p := ⟨w.heap.size, 11, none⟩) (by simp)).trans (by simp)
  have k12 : w2.cell? ⟨w.heap.size, 12, none⟩ = some (.slice fa r.feats.length fc) := (hb.cell (p := ⟨w.heap.size, 12, none⟩) (by simp)).trans (by simp)
  have hz2 : w.heap.size < w2.heap.size := Nat.lt_of_lt_of_le (by simp) hb.size
  have HB2 := Lib.hid (fin (b1 _ _) hb)
  clear hb
  cases q
  case true =>
    go_wp2
    go_ret
    exact ⟨_, rfl, HB2.out⟩
  by_cases tfile : 200 < r.file.size
  · have dfile : decide ((200 : Int) < (r.file.size : Int)) = true := by simp; omega
    go_wp2
    go_ret
    exact ⟨_, rfl, HB2.out⟩
  have dfile : decide ((200 : Int) < (r.file.size : Int)) = false := by simp; omega
  by_cases ttext : 200 < r.text.size
  · have dtext : decide ((200 : Int) < (r.text.size : Int)) = true := by simp; omega
    go_wp2
    go_ret
    exact ⟨_, rfl, HB2.out⟩
  have dtext : decide ((200 : Int) < (r.text.size : Int)) = false := by simp; omega
  by_cases tfeats : 20 < r.feats.length
  · have dfeats : decide ((20 : Int) < (r.feats.length : Int)) = true := by simp; omega
    go_wp2
    go_ret
    exact ⟨_, rfl, HB2.out⟩
  have dfeats : decide ((20 : Int) < (r.feats.length : Int)) = false := by simp; omega
  go_wp2_with fail
  (with_reducible refine (long_any fa fc r.feats 500 _ (HR.out.below HB2.out).feats (by omega)).mono ?_)
  rintro e w3 ⟨q, rfl, hb⟩
  have j10 : w3.cell? ⟨w.heap.size, 10, none⟩ = some (.slice da r.deps.length dc) := (hb.cell (p := ⟨w.heap.size, 10, none⟩) hz2).trans k10
  have j11 : w3.cell? ⟨w.heap.size, 11, none⟩ = some (.slice ca r.cons.length cc) := (hb.cell (p := ⟨w.heap.size, 11, none⟩) hz2).trans k11
  have hz3 : w.heap.size < w3.heap.size := Nat.lt_of_lt_of_le hz2 hb.size
  have HB3 := Lib.hid (fin HB2.out hb)
  clear hb k1 k3 k10 k11 k12 dfile dtext dfeats
  cases q
  case true =>
    go_wp2
    go_ret
    exact ⟨_, rfl, HB3.out⟩
  by_cases tdeps : 20 < r.deps.length
  · have ddeps : decide ((20 : Int) < (r.deps.length : Int)) = true := by simp; omega
    go_wp2
    go_ret
    exact ⟨_, rfl, HB3.out⟩
  have ddeps : decide ((20 : Int) < (r.deps.length : Int)) = false := by simp; omega
  by_cases tcons : 20 < r.cons.length
  · have dcons : decide ((20 : Int) < (r.cons.length : Int)) = true := by simp; omega
    go_wp2
    go_ret
    exact ⟨_, rfl, HB3.out⟩
  have dcons : decide ((20 : Int) < (r.cons.length : Int)) = false := by simp; omega
  go_wp2
  clear ddeps dcons
  generalize hW : w3.alloc _ = W
  have h0 : Below w.heap.size w W := by subst hW; exact fin HB3.out (b1 _ _)
  have hs : ∀ k : Nat, k < 2 → ∃ (xa : Option Addr) (xs : List Sp) (xc : Nat), W.cell? ⟨w3.heap.size, k, none⟩ = some (.slice xa xs.length xc) ∧ Sl RSp 5 w xa xs ∧ xs.length ≤ 20 := by
    intro k hk
    have : k = 0 ∨ k = 1 := by omega
    rcases this with rfl | rfl
    · exact ⟨da, r.deps, dc, by subst hW; simp, HR.out.deps, by omega⟩
    · exact ⟨ca, r.cons, cc, by subst hW; simp, HR.out.cons, by omega⟩
  have hz : w3.heap.size < W.heap.size := by subst hW; simp
  have HS := Lib.hid hs
  have H0 := Lib.hid h0
  clear hs h0 hW j10 j11
  go_loopw [4, 6, 50] (fun _ _ i wr => ∃ k : Nat, k ≤ 2 ∧ i = .int .i64 k ∧ Below W.heap.size W wr) (fun _ _ i _ => 2 - (intOf i).toNat)
  case atStart => exact ⟨0, by omega, rfl, Below.refl _ _⟩
  case round =>
    obtain ⟨k, hk, rfl, hbr⟩ := hrel
    by_cases hlt : k < 2
    · obtain ⟨xa, xs, xc, hc0, hx0, hxl⟩ := HS.out k hlt
      have hc := (hbr.cell (p := ⟨w3.heap.size, k, none⟩) hz).trans hc0
      have HX := Lib.hid hx0
      have HB := Lib.hid hbr
      clear hc0 hx0 hbr
      obtain ⟨wo, rfl⟩ : ∃ wo : World, wo = wr := ⟨_, rfl⟩
      have hz4 : w3.heap.size < wo.heap.size := Nat.lt_of_lt_of_le hz HB.out.size
      have dk : decide ((k : Int) < 2) = true := by simp; omega
      go_wp2
      clear hc
      go_loopw [6, 56] (fun _ i wr => ∃ j : Nat, j ≤ xs.length ∧ i = .int .i64 j ∧ Below W.heap.size W wr) (fun _ i _ => xs.length - (intOf i).toNat)
      case atStart => exact ⟨0, by omega, rfl, HB.out⟩
      case round =>
        obtain ⟨j, hj, rfl, hbr⟩ := hrel
        have HB4 := Lib.hid hbr
        clear hbr
        by_cases hlt2 : j < xs.length
        · obtain ⟨x, hx⟩ : ∃ x, xs[j]? = some x := ⟨xs[j], by simp [hlt2]⟩
          obtain ⟨b, off, ra, rc, rfl, hbl, ⟨t0, t1, t2, t3, t4⟩, hat⟩ := (HX.out.below stays_RSp (fin H0.out HB4.out)).cellsSp hx
          have HA := Lib.hid hat
          clear hx hat
          go_wp2_with fail
          (with_reducible refine (big09_any x ra rc _ (HA.out.below (b1 _ _))).mono ?_)
          rintro e w5 ⟨q, rfl, hb⟩
          have HB5 := Lib.hid (fin (HB4.out.alloc HB4.out.size _) hb)
          clear hb
          cases q
          · go_wp2
            go_roundw
            case rel => first | exact ⟨j + 1, by omega, by go_num, HB5.out⟩ | ((repeat apply Exists.intro); exact ⟨⟨j + 1, by omega, by go_num, HB5.out⟩, rfl⟩)
            case measure => simp [intOf]; omega
          · go_wp2
            go_ret
            exact ⟨_, rfl, fin H0.out HB5.out⟩
        · go_wp2
          go_roundw
          case rel => exact ⟨k + 1, by omega, by go_num, HB4.out⟩
          case measure => simp [intOf]; omega
    · go_wp2
      go_ret
      exact ⟨_, rfl, fin H0.out hbr⟩
theorem Sl.rcAll {w : World} {a : Option Addr} {xs : List Rc} (h : Sl RRc 13 w a xs) {i : Nat} {r : Rc} (hx : xs[i]? = some r) :
    ∃ b off pa la pc lc da dc ca cc fa fc, a = some ⟨b, off, none⟩ ∧ b < w.heap.size ∧ (w.cell? ⟨b, off + i * 13, none⟩ = some (.string r.chan) ∧ w.cell? ⟨b, off + i * 13 + 1, none⟩ = some (.string r.file) ∧ w.cell? ⟨b, off + i * 13 + 2, none⟩ = some (.string r.name) ∧ w.cell? ⟨b, off + i * 13 + 3, none⟩ = some (.string r.text) ∧ w.cell? ⟨b, off + i * 13 + 4, none⟩ = some (.int .i64 r.ver.ep) ∧ w.cell? ⟨b, off + i * 13 + 5, none⟩ = some (.slice pa r.ver.parts.length pc) ∧ w.cell? ⟨b, off + i * 13 + 6, none⟩ = some (.slice la r.ver.loc.length lc) ∧ w.cell? ⟨b, off + i * 13 + 7, none⟩ = some (.string r.build) ∧ w.cell? ⟨b, off + i * 13 + 8, none⟩ = some (.int .i64 r.num) ∧ w.cell? ⟨b, off + i * 13 + 9, none⟩ = some (.int .i64 r.time) ∧ w.cell? ⟨b, off + i * 13 + 10, none⟩ = some (.slice da r.deps.length dc) ∧ w.cell? ⟨b, off + i * 13 + 11, none⟩ = some (.slice ca r.cons.length cc) ∧ w.cell? ⟨b, off + i * 13 + 12, none⟩ = some (.slice fa r.feats.length fc)) ∧ RcAll w r pa la da ca fa pc lc dc cc fc := by
  obtain ⟨b, off, pa, la, pc, lc, da, dc, ca, cc, fa, fc, e, hlt, hcells, hat, h9, h10, h11⟩ := h.cellsRc hx
  exact ⟨b, off, pa, la, pc, lc, da, dc, ca, cc, fa, fc, e, hlt, hcells, hat.ver, h9, h10, h11⟩
/-- BigAll: if it says no, there are no more than so many -/
def BigPost (n : Nat) (most : Int) (w : World) (e : Ending) (w' : World) : Prop := ∃ b, e = .returned (.bool b) ∧ (b = false → (n : Int) ≤ most) ∧ Below w.heap.size w w'
set_option maxHeartbeats 2000000 in
set_option maxRecDepth 100000 in
theorem bigAll_any (a : Option Addr) (c : Nat) (l : List Rc) (most : Int) (w : World) (hR : Sl RRc 13 w a l) (hm : 0 ≤ most ∧ most ≤ 1000) :
    Calls Tryz.prog 6 #[.slice a l.length c, .int .i64 most] w (BigPost l.length most w) := by
  have HR := Lib.hid hR
  have hl := hR.len
  obtain ⟨hm1, hm2⟩ := hm
  clear hR
  by_cases h1 : most < (l.length : Int)
  · have d1 : decide (most < (l.length : Int)) = true := by simpa using h1
    go_enter Tryz.func6, Tryz.ntmps6
    go_wp2
    go_ret
    exact ⟨_, rfl, (fun h => by cases h), Below.refl _ _⟩
  have d1 : decide (most < (l.length : Int)) = false := by simpa using h1
  go_enter Tryz.func6, Tryz.ntmps6
  go_wp2
  clear d1
  go_loopw [6, 13] (fun _ i wr => ∃ k : Nat, k ≤ l.length ∧ i = .int .i64 k ∧ Below w.heap.size w wr) (fun _ i _ => l.length - (intOf i).toNat)
  case atStart => exact ⟨0, by omega, rfl, Below.refl _ _⟩
  case round =>
    obtain ⟨k, hk, rfl, hbr⟩ := hrel
    have HB := Lib.hid hbr
    clear hbr
    by_cases hlt : k < l.length
    · obtain ⟨r, hx⟩ : ∃ x, l[k]? = some x := ⟨l[k], by simp [hlt]⟩
      obtain ⟨b, off, pa, la, pc, lc, da, dc, ca, cc, fa, fc, rfl, hbl, ⟨t0, t1, t2, t3, t4, t5, t6, t7, t8, t9, t10, t11, t12⟩, hat⟩ := (HR.out.below stays_RRc HB.out).rcAll hx
      have HA := Lib.hid hat
      clear hx hat
      go_wp2_with fail
      (with_reducible refine (big10_any r pa la da ca fa pc lc dc cc fc _ (HA.out.below (b1 _ _))).mono ?_)
      rintro e w5 ⟨q, rfl, hb⟩
      have HB5 := Lib.hid (fin (HB.out.alloc HB.out.size _) hb)
      clear hb
      cases q
      · go_wp2
        go_roundw
        case rel => exact ⟨k + 1, by omega, by go_num, HB5.out⟩
        case measure => simp [intOf]; omega
      · go_wp2
        go_ret
        exact ⟨_, rfl, (fun h => by cases h), HB5.out⟩
    · go_wp2
      go_ret
      exact ⟨_, rfl, (fun _ => by omega), HB.out⟩
end Go.Proofs.YtnmcajinaigcjaaGreatDoor

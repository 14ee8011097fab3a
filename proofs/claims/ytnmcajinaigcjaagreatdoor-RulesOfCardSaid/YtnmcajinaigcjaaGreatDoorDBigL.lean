/- The guards of constraints, specs and records, with what a 'no' says: rows of at most twenty terms. -/
import Derived.Test.YtnmcajinaigcjaaGreatDoorQBigAll
namespace Go.Proofs.YtnmcajinaigcjaaGreatDoor
open Go.RowKit
open Q (It Ver Tm Sp Rc Dm)

/-- a bool came back; if it says no, P holds -/
def LenB (P : Prop) (w : World) (e : Ending) (w' : World) : Prop := ∃ b, e = .returned (.bool b) ∧ (b = false → P) ∧ Below w.heap.size w w'
def SmallSp (s : Sp) : Prop := ∀ x ∈ s.rows, x.length ≤ 20
/-- few specs, and small ones -/
def SmallRc (r : Rc) : Prop := r.deps.length ≤ 20 ∧ ∀ s ∈ r.deps, SmallSp s
theorem take_all {α : Type} {P : α → Prop} {l : List α} {k : Nat} {x : α} (h : l[k]? = some x) (h0 : ∀ y ∈ l.take k, P y) (hx : P x) : ∀ y ∈ l.take (k + 1), P y := by
  intro y hy
  rw [List.take_add_one, h] at hy
  rcases List.mem_append.1 hy with h1 | h1
  · exact h0 y h1
  · simp at h1; subst h1; exact hx
set_option maxHeartbeats 2000000 in
set_option maxRecDepth 100000 in
theorem big08L (rows : List (List Tm)) (a : Option Addr) (c : Nat) (w : World) (hz : Sl (RS RTm 4) 1 w a rows) :
    Calls Tryz.prog 69 #[.agg #[.slice a rows.length c]] w (LenB (∀ x ∈ rows, x.length ≤ 20) w) := by
  have HZ := Lib.hid hz
  have hl1 := hz.len
  clear hz
  by_cases h1 : 20 < rows.length
  · have d1 : decide ((20 : Int) < (rows.length : Int)) = true := by simp; omega
    go_enter Tryz.func69, Tryz.ntmps69
    go_wp2
    go_ret
    exact ⟨_, rfl, (fun h => by cases h), b1 _ _⟩
  · have d1 : decide ((20 : Int) < (rows.length : Int)) = false := by simp; omega
    go_enter Tryz.func69, Tryz.ntmps69
    go_wp2
    clear d1
    generalize hW : w.alloc _ = W
    have h0 : Below w.heap.size w W := by subst hW; exact b1 _ _
    have H0 := Lib.hid h0
    clear h0 hW
    go_loopw [4, 6, 14] (fun _ _ i wr => ∃ k : Nat, k ≤ rows.length ∧ i = .int .i64 k ∧ (∀ x ∈ rows.take k, x.length ≤ 20) ∧ Below W.heap.size W wr) (fun _ _ i _ => rows.length - (intOf i).toNat)
    case atStart => exact ⟨0, by omega, rfl, (fun x hx => by simp at hx), Below.refl _ _⟩
    case round =>
      obtain ⟨k, hk, rfl, hall, hbr⟩ := hrel
      have HALL := Lib.hid hall
      clear hall
      have HB := Lib.hid hbr
      clear hbr
      by_cases hlt : k < rows.length
      · obtain ⟨x, hx⟩ : ∃ x, rows[k]? = some x := ⟨rows[k], by simp [hlt]⟩
        obtain ⟨b, off, a', c', rfl, hbl, c0, hsx⟩ := (HZ.out.below (stays_RS stays_RTm) (fin H0.out HB.out)).cellRow hx
        have hxlen := hsx.len
        have HSX := Lib.hid hsx
        have HXR := Lib.hid hx
        clear hx hsx
        obtain ⟨wp, rfl⟩ : ∃ wo : World, wo = wr := ⟨_, rfl⟩
        by_cases h20 : 20 < x.length
        · have d20 : decide ((20 : Int) < (x.length : Int)) = true := by simp; omega
          go_wp2
          go_ret
          exact ⟨_, rfl, (fun h => by cases h), fin H0.out HB.out⟩
        · have d20 : decide ((20 : Int) < (x.length : Int)) = false := by simp; omega
          go_wp2
          clear c0 d20
          go_loopw [6, 23] (fun _ i wr => ∃ m : Nat, m ≤ x.length ∧ i = .int .i64 m ∧ Below wp.heap.size wp wr) (fun _ i _ => x.length - (intOf i).toNat)
          case atStart => exact ⟨0, by omega, rfl, Below.refl _ _⟩
          case round =>
            obtain ⟨m, hm, rfl, hbr⟩ := hrel
            have HB3 := Lib.hid hbr
            clear hbr
            by_cases hlt3 : m < x.length
            · obtain ⟨y, hy⟩ : ∃ y, x[m]? = some y := ⟨x[m], by simp [hlt3]⟩
              obtain ⟨b3, off3, pa, la, pc, lc, rfl, hbl3, y0, y1, y2, y3, hva⟩ := (HSX.out.below stays_RTm HB3.out).cells4 hy
              have HVA := Lib.hid hva
              clear hy hva
              by_cases h21 : 20 < y.op.size
              · have d21 : decide ((20 : Int) < (y.op.size : Int)) = true := by simp; omega
                go_wp2
                go_ret
                exact ⟨_, rfl, (fun h => by cases h), fin_alloc (fin H0.out HB.out) HB3.out _⟩
              · have d21 : decide ((20 : Int) < (y.op.size : Int)) = false := by simp; omega
                go_wp2_with fail
                (with_reducible refine (big07_any y.ver pa la pc lc _ (HVA.out.below (b1 _ _))).mono ?_)
                rintro e w2 ⟨q, rfl, hb⟩
                have HB4 := Lib.hid (fin (HB3.out.alloc HB3.out.size _) hb)
                clear hb
                cases q
                · go_wp2
                  go_roundw
                  case rel => exact ⟨m + 1, by omega, by go_num, HB4.out⟩
                  case measure => simp [intOf]; omega
                · go_wp2
                  go_ret
                  exact ⟨_, rfl, (fun h => by cases h), fin (fin H0.out HB.out) HB4.out⟩
            · go_wp2
              go_roundw
              case rel => exact ⟨k + 1, by omega, by go_num, take_all HXR.out HALL.out (by omega), fin HB.out HB3.out⟩
              case measure => simp [intOf]; omega
      · go_wp2
        go_ret
        exact ⟨_, rfl, (fun _ x hx => HALL.out x (by rw [List.take_of_length_le (by omega)]; exact hx)), fin H0.out HB.out⟩
set_option maxHeartbeats 1000000 in
theorem big09L (s : Sp) (ra : Option Addr) (rc : Nat) (w : World) (hs : SpAt w s ra rc) :
    Calls Tryz.prog 39 #[.agg #[.string s.chan, .string s.name, .slice ra s.rows.length rc, .string s.build, .int .i64 s.num]] w (LenB (SmallSp s) w) := by
  have HS := Lib.hid hs
  have hl := hs.rows.len
  clear hs
  go_enter Tryz.func39, Tryz.ntmps39
  go_wp2_with ((go_at_call 69; (with_reducible refine (big08L s.rows _ _ _ (HS.out.below (b1 _ _)).rows).mono ?_); rintro e w2 ⟨q, rfl, hq, hb⟩; have HQ := Lib.hid hq; clear hq; have HB := Lib.hid (fin (b1 _ _) hb); clear hb))
  all_goals
    go_ret
    exact ⟨_, rfl, (by intro h; first | exact HQ.out h | exact HQ.out (Bool.or_eq_false_iff.1 h).2 | (cases h; done)), (by first | exact HB.out | exact b1 _ _)⟩
set_option maxHeartbeats 4000000 in
set_option maxRecDepth 100000 in
theorem big10L (r : Rc) (pa la da ca fa : Option Addr) (pc lc dc cc fc : Nat) (w : World) (hr : RcAll w r pa la da ca fa pc lc dc cc fc) :
    Calls Tryz.prog 23 #[.agg #[.string r.chan, .string r.file, .string r.name, .string r.text, .int .i64 r.ver.ep, .slice pa r.ver.parts.length pc, .slice la r.ver.loc.length lc, .string r.build, .int .i64 r.num, .int .i64 r.time, .slice da r.deps.length dc, .slice ca r.cons.length cc, .slice fa r.feats.length fc]] w (LenB (SmallRc r) w) := by
  have HR := Lib.hid hr
  have hl1 := hr.deps.len
  have hl2 := hr.cons.len
  have hl3 := hr.feats.len
  clear hr
  go_enter Tryz.func23, Tryz.ntmps23
  go_wp2_with fail
  (with_reducible refine (bigRec_any r pa la pc lc _ _ _ _ (HR.out.below (b1 _ _)).ver).mono ?_)
  rintro e w2 ⟨q, rfl, hb⟩
  have k1 : w2.cell? ⟨w.heap.size, 1, none⟩ = some (.string r.file) := (hb.cell (p := ⟨w.heap.size, 1, none⟩) (by simp)).trans (by simp)
  have k3 : w2.cell? ⟨w.heap.size, 3, none⟩ = some (.string r.text) := (hb.cell (p := ⟨w.heap.size, 3, none⟩) (by simp)).trans (by simp)
  have k10 : w2.cell? ⟨w.heap.size, 10, none⟩ = some (.slice da r.deps.length dc) := (hb.cell (p := ⟨w.heap.size, 10, none⟩) (by simp)).trans (by simp)
  have k11 : w2.cell? ⟨w.heap.size, 11, none⟩ = some (.slice ca r.cons.length cc) := (hb.cell (p := ⟨w.heap.size, 11, none⟩) (by simp)).trans (by simp)
  have k12 : w2.cell? ⟨w.heap.size, 12, none⟩ = some (.slice fa r.feats.length fc) := (hb.cell (p := ⟨w.heap.size, 12, none⟩) (by simp)).trans (by simp)
  have hz2 : w.heap.size < w2.heap.size := Nat.lt_of_lt_of_le (by simp) hb.size
  have HB2 := Lib.hid (fin (b1 _ _) hb)
  clear hb
  cases q
  case true =>
    go_wp2
    go_ret
    exact ⟨_, rfl, (fun h => by cases h), HB2.out⟩
  by_cases tfile : 200 < r.file.size
  · have dfile : decide ((200 : Int) < (r.file.size : Int)) = true := by simp; omega
    go_wp2
    go_ret
    exact ⟨_, rfl, (fun h => by cases h), HB2.out⟩
  have dfile : decide ((200 : Int) < (r.file.size : Int)) = false := by simp; omega
  by_cases ttext : 200 < r.text.size
  · have dtext : decide ((200 : Int) < (r.text.size : Int)) = true := by simp; omega
    go_wp2
    go_ret
    exact ⟨_, rfl, (fun h => by cases h), HB2.out⟩
  have dtext : decide ((200 : Int) < (r.text.size : Int)) = false := by simp; omega
  by_cases tfeats : 20 < r.feats.length
  · have dfeats : decide ((20 : Int) < (r.feats.length : Int)) = true := by simp; omega
    go_wp2
    go_ret
    exact ⟨_, rfl, (fun h => by cases h), HB2.out⟩
  have dfeats : decide ((20 : Int) < (r.feats.length : Int)) = false := by simp; omega
  go_wp2_with fail
  (with_reducible refine (long_any fa fc r.feats 500 _ (HR.out.below HB2.out).feats (by omega)).mono ?_)
  rintro e w3 ⟨q, rfl, hb⟩
  have j10 : w3.cell? ⟨w.heap.size, 10, none⟩ = some (.slice da r.deps.length dc) := (hb.cell (p := ⟨w.heap.size, 10, none⟩) hz2).trans k10
  have j11 : w3.cell? ⟨w.heap.size, 11, none⟩ = some (.slice ca r.cons.length cc) := (hb.cell (p := ⟨w.heap.size, 11, none⟩) hz2).trans k11
  have hz3 : w.heap.size < w3.heap.size := Nat.lt_of_lt_of_le hz2 hb.size
  have HB3 := Lib.hid (fin HB2.out hb)
  clear hb k1 k3 k10 k11 k12 dfile dtext dfeats
  cases q
  case true =>
    go_wp2
    go_ret
    exact ⟨_, rfl, (fun h => by cases h), HB3.out⟩
  by_cases tdeps : 20 < r.deps.length
  · have ddeps : decide ((20 : Int) < (r.deps.length : Int)) = true := by simp; omega
    go_wp2
    go_ret
    exact ⟨_, rfl, (fun h => by cases h), HB3.out⟩
  have ddeps : decide ((20 : Int) < (r.deps.length : Int)) = false := by simp; omega
  by_cases tcons : 20 < r.cons.length
  · have dcons : decide ((20 : Int) < (r.cons.length : Int)) = true := by simp; omega
    go_wp2
    go_ret
    exact ⟨_, rfl, (fun h => by cases h), HB3.out⟩
  have dcons : decide ((20 : Int) < (r.cons.length : Int)) = false := by simp; omega
  go_wp2
  clear ddeps dcons
  generalize hW : w3.alloc _ = W
  have h0 : Below w.heap.size w W := by subst hW; exact fin HB3.out (b1 _ _)
  have hs : ∀ k : Nat, k < 2 → ∃ (xa : Option Addr) (xs : List Sp) (xc : Nat), W.cell? ⟨w3.heap.size, k, none⟩ = some (.slice xa xs.length xc) ∧ Sl RSp 5 w xa xs ∧ xs.length ≤ 20 ∧ (k = 0 → xs = r.deps) := by
    intro k hk
    have : k = 0 ∨ k = 1 := by omega
    rcases this with rfl | rfl
    · exact ⟨da, r.deps, dc, by subst hW; simp, HR.out.deps, by omega, fun _ => rfl⟩
    · exact ⟨ca, r.cons, cc, by subst hW; simp, HR.out.cons, by omega, fun h => by omega⟩
  have hz : w3.heap.size < W.heap.size := by subst hW; simp
  have HS := Lib.hid hs
  have H0 := Lib.hid h0
  clear hs h0 hW j10 j11
  go_loopw [4, 6, 50] (fun _ _ i wr => ∃ k : Nat, k ≤ 2 ∧ i = .int .i64 k ∧ (0 < k → ∀ s ∈ r.deps, SmallSp s) ∧ Below W.heap.size W wr) (fun _ _ i _ => 2 - (intOf i).toNat)
  case atStart => exact ⟨0, by omega, rfl, (fun h => by omega), Below.refl _ _⟩
  case round =>
    obtain ⟨k, hk, rfl, hdd, hbr⟩ := hrel
    have HDD := Lib.hid hdd
    clear hdd
    by_cases hlt : k < 2
    · obtain ⟨xa, xs, xc, hc0, hx0, hxl, hxd⟩ := HS.out k hlt
      have HXD := Lib.hid hxd
      clear hxd
      have hc := (hbr.cell (p := ⟨w3.heap.size, k, none⟩) hz).trans hc0
      have HX := Lib.hid hx0
      have HB := Lib.hid hbr
      clear hc0 hx0 hbr
      obtain ⟨wo, rfl⟩ : ∃ wo : World, wo = wr := ⟨_, rfl⟩
      have hz4 : w3.heap.size < wo.heap.size := Nat.lt_of_lt_of_le hz HB.out.size
      have dk : decide ((k : Int) < 2) = true := by simp; omega
      go_wp2
      clear hc
      go_loopw [6, 56] (fun _ i wr => ∃ j : Nat, j ≤ xs.length ∧ i = .int .i64 j ∧ (∀ s ∈ xs.take j, SmallSp s) ∧ Below W.heap.size W wr) (fun _ i _ => xs.length - (intOf i).toNat)
      case atStart => exact ⟨0, by omega, rfl, (fun x hx => by simp at hx), HB.out⟩
      case round =>
        obtain ⟨j, hj, rfl, hall, hbr⟩ := hrel
        have HALL := Lib.hid hall
        clear hall
        have HB4 := Lib.hid hbr
        clear hbr
        by_cases hlt2 : j < xs.length
        · obtain ⟨x, hx⟩ : ∃ x, xs[j]? = some x := ⟨xs[j], by simp [hlt2]⟩
          obtain ⟨b, off, ra, rc, rfl, hbl, ⟨t0, t1, t2, t3, t4⟩, hat⟩ := (HX.out.below stays_RSp (fin H0.out HB4.out)).cellsSp hx
          have HA := Lib.hid hat
          have HXR := Lib.hid hx
          clear hx hat
          go_wp2_with fail
          (with_reducible refine (big09L x ra rc _ (HA.out.below (b1 _ _))).mono ?_)
          rintro e w5 ⟨q, rfl, hq, hb⟩
          have HQ := Lib.hid hq
          clear hq
          have HB5 := Lib.hid (fin (HB4.out.alloc HB4.out.size _) hb)
          clear hb
          cases q
          · go_wp2
            go_roundw
            case rel => first | exact ⟨j + 1, by omega, by go_num, take_all HXR.out HALL.out (HQ.out (by first | trivial | rfl)), HB5.out⟩ | ((repeat apply Exists.intro); exact ⟨⟨j + 1, by omega, by go_num, take_all HXR.out HALL.out (HQ.out (by first | trivial | rfl)), HB5.out⟩, rfl⟩)
            case measure => simp [intOf]; omega
          · go_wp2
            go_ret
            exact ⟨_, rfl, (fun h => by cases h), fin H0.out HB5.out⟩
        · go_wp2
          go_roundw
          case rel => exact ⟨k + 1, by omega, by go_num, (fun _ => by
            by_cases h0 : k = 0
            · have := HALL.out
              rw [List.take_of_length_le (by omega), HXD.out h0] at this
              exact this
            · exact HDD.out (by omega)), HB4.out⟩
          case measure => simp [intOf]; omega
    · go_wp2
      go_ret
      exact ⟨_, rfl, (fun _ => ⟨by omega, HDD.out (by omega)⟩), fin H0.out hbr⟩
set_option maxHeartbeats 2000000 in
set_option maxRecDepth 100000 in
theorem bigAllL (a : Option Addr) (c : Nat) (l : List Rc) (most : Int) (w : World) (hR : Sl RRc 13 w a l) (hm : 0 ≤ most ∧ most ≤ 1000) :
    Calls Tryz.prog 6 #[.slice a l.length c, .int .i64 most] w (LenB ((l.length : Int) ≤ most ∧ ∀ r ∈ l, SmallRc r) w) := by
  have HR := Lib.hid hR
  have hl := hR.len
  obtain ⟨hm1, hm2⟩ := hm
  clear hR
  by_cases h1 : most < (l.length : Int)
  · have d1 : decide (most < (l.length : Int)) = true := by simpa using h1
    go_enter Tryz.func6, Tryz.ntmps6
    go_wp2
    go_ret
    exact ⟨_, rfl, (fun h => by cases h), Below.refl _ _⟩
  have d1 : decide (most < (l.length : Int)) = false := by simpa using h1
  go_enter Tryz.func6, Tryz.ntmps6
  go_wp2
  clear d1
  go_loopw [6, 13] (fun _ i wr => ∃ k : Nat, k ≤ l.length ∧ i = .int .i64 k ∧ (∀ r ∈ l.take k, SmallRc r) ∧ Below w.heap.size w wr) (fun _ i _ => l.length - (intOf i).toNat)
  case atStart => exact ⟨0, by omega, rfl, (fun x hx => by simp at hx), Below.refl _ _⟩
  case round =>
    obtain ⟨k, hk, rfl, hall, hbr⟩ := hrel
    have HALL := Lib.hid hall
    clear hall
    have HB := Lib.hid hbr
    clear hbr
    by_cases hlt : k < l.length
    · obtain ⟨r, hx⟩ : ∃ x, l[k]? = some x := ⟨l[k], by simp [hlt]⟩
      obtain ⟨b, off, pa, la, pc, lc, da, dc, ca, cc, fa, fc, rfl, hbl, ⟨t0, t1, t2, t3, t4, t5, t6, t7, t8, t9, t10, t11, t12⟩, hat⟩ := (HR.out.below stays_RRc HB.out).rcAll hx
      have HA := Lib.hid hat
      have HXR := Lib.hid hx
      clear hx hat
      go_wp2_with fail
      (with_reducible refine (big10L r pa la da ca fa pc lc dc cc fc _ (HA.out.below (b1 _ _))).mono ?_)
      rintro e w5 ⟨q, rfl, hq, hb⟩
      have HQ := Lib.hid hq
      clear hq
      have HB5 := Lib.hid (fin (HB.out.alloc HB.out.size _) hb)
      clear hb
      cases q
      · go_wp2
        go_roundw
        case rel => exact ⟨k + 1, by omega, by go_num, take_all HXR.out HALL.out (HQ.out (by first | trivial | rfl)), HB5.out⟩
        case measure => simp [intOf]; omega
      · go_wp2
        go_ret
        exact ⟨_, rfl, (fun h => by cases h), HB5.out⟩
    · go_wp2
      go_ret
      exact ⟨_, rfl, (fun _ => ⟨by omega, fun x hx => HALL.out x (by rw [List.take_of_length_le (by omega)]; exact hx)⟩), HB.out⟩
end Go.Proofs.YtnmcajinaigcjaaGreatDoor

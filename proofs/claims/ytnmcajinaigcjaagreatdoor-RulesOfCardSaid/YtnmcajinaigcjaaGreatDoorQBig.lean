/- The guards of versions, constraints and specs answer, and leave memory as it was. -/
import Derived.Test.YtnmcajinaigcjaaGreatDoorQMatch
namespace Go.Proofs.YtnmcajinaigcjaaGreatDoor
open Go.RowKit
open Q (It Ver Tm Sp Rc Dm)

/-- some bool came back; what lay stays -/
def SomeB (w : World) (e : Ending) (w' : World) : Prop := ∃ b, e = .returned (.bool b) ∧ Below w.heap.size w w'
theorem b1 (w : World) (o : Obj) : Below w.heap.size w (w.alloc o) := (Below.refl _ _).alloc (Nat.le_refl _) o
set_option maxHeartbeats 2000000 in
set_option maxRecDepth 100000 in
theorem big07_any (v : Ver) (pa la : Option Addr) (pc lc : Nat) (w : World) (hv : VerAt w v pa la pc lc) :
    Calls Tryz.prog 78 #[.agg #[.int .i64 v.ep, .slice pa v.parts.length pc, .slice la v.loc.length lc]] w (SomeB w) := by
  have HV := Lib.hid hv
  have hl1 := hv.parts.len
  have hl2 := hv.loc.len
  clear hv
  by_cases h1 : 50 < v.parts.length
  · have d1 : decide ((50 : Int) < (v.parts.length : Int)) = true := by simp; omega
    go_enter Tryz.func78, Tryz.ntmps78
    go_wp2
    go_ret
    exact ⟨_, rfl, b1 _ _⟩
  · have d1 : decide ((50 : Int) < (v.parts.length : Int)) = false := by simp; omega
    by_cases h2 : 50 < v.loc.length
    · have d2 : decide ((50 : Int) < (v.loc.length : Int)) = true := by simp; omega
      go_enter Tryz.func78, Tryz.ntmps78
      go_wp2
      go_ret
      exact ⟨_, rfl, b1 _ _⟩
    · have d2 : decide ((50 : Int) < (v.loc.length : Int)) = false := by simp; omega
      go_enter Tryz.func78, Tryz.ntmps78
      go_wp2
      clear d1 d2
      generalize hW : (w.alloc _).alloc _ = W
      have h0 : Below w.heap.size w W := by subst hW; exact (b1 _ _).alloc (by simp) _
      have hs : ∀ k : Nat, k < 2 → ∃ (xa : Option Addr) (xs : List (List It)) (xc : Nat), W.cell? ⟨w.heap.size + 1, k, none⟩ = some (.slice xa xs.length xc) ∧ Rows2 w xa xs ∧ xs.length ≤ 50 := by
        intro k hk
        have : k = 0 ∨ k = 1 := by omega
        rcases this with rfl | rfl
        · exact ⟨pa, v.parts, pc, by subst hW; simp, HV.out.parts, by omega⟩
        · exact ⟨la, v.loc, lc, by subst hW; simp, HV.out.loc, by omega⟩
      have hz : w.heap.size + 1 < W.heap.size := by subst hW; simp
      have HS := Lib.hid hs
      have H0 := Lib.hid h0
      clear hs h0 hW
      go_loopw [4, 6, 8, 25] (fun _ _ _ i wr => ∃ k : Nat, k ≤ 2 ∧ i = .int .i64 k ∧ Below W.heap.size W wr) (fun _ _ _ i _ => 2 - (intOf i).toNat)
      case atStart => exact ⟨0, by omega, rfl, Below.refl _ _⟩
      case round =>
        obtain ⟨k, hk, rfl, hbr⟩ := hrel
        by_cases hlt : k < 2
        · obtain ⟨xa, xs, xc, hc0, hx0, hxl⟩ := HS.out k hlt
          have hc := (hbr.cell (p := ⟨w.heap.size + 1, k, none⟩) hz).trans hc0
          have HX := Lib.hid hx0
          have HB := Lib.hid hbr
          clear hc0 hx0 hbr
          obtain ⟨wo, rfl⟩ : ∃ wo : World, wo = wr := ⟨_, rfl⟩
          have hz2 : w.heap.size + 1 < wo.heap.size := Nat.lt_of_lt_of_le hz HB.out.size
          go_wp2
          clear hc
          go_loopw [6, 8, 31] (fun _ _ i wr => ∃ j : Nat, j ≤ xs.length ∧ i = .int .i64 j ∧ Below W.heap.size W wr) (fun _ _ i _ => xs.length - (intOf i).toNat)
          case atStart => exact ⟨0, by omega, rfl, HB.out⟩
          case round =>
            obtain ⟨j, hj, rfl, hbr⟩ := hrel
            have HB2 := Lib.hid hbr
            clear hbr
            by_cases hlt2 : j < xs.length
            · obtain ⟨x, hx⟩ : ∃ x, xs[j]? = some x := ⟨xs[j], by simp [hlt2]⟩
              obtain ⟨b, off, a', c', rfl, hbl, c0, _, hsx⟩ := (HX.out.below (fin H0.out HB2.out)).cell1 hx
              have hxlen := hsx.len
              have HSX := Lib.hid hsx
              clear hx hsx
              obtain ⟨wp, rfl⟩ : ∃ wo : World, wo = wr := ⟨_, rfl⟩
              by_cases h30 : 30 < x.length
              · have d30 : decide ((30 : Int) < (x.length : Int)) = true := by simp; omega
                go_wp2
                go_ret
                exact ⟨_, rfl, fin H0.out HB2.out⟩
              · have d30 : decide ((30 : Int) < (x.length : Int)) = false := by simp; omega
                go_wp2
                clear c0 d30
                go_loopw [8, 40] (fun _ i wr => ∃ m : Nat, m ≤ x.length ∧ i = .int .i64 m ∧ Below wp.heap.size wp wr) (fun _ i _ => x.length - (intOf i).toNat)
                case atStart => exact ⟨0, by omega, rfl, Below.refl _ _⟩
                case round =>
                  obtain ⟨m, hm, rfl, hbr⟩ := hrel
                  have HB3 := Lib.hid hbr
                  clear hbr
                  by_cases hlt3 : m < x.length
                  · obtain ⟨y, hy⟩ : ∃ y, x[m]? = some y := ⟨x[m], by simp [hlt3]⟩
                    obtain ⟨b3, off3, rfl, hbl3, y0, y1⟩ := (HSX.out.below stays_RIt HB3.out).cells2 hy
                    clear hy
                    go_wp2
                    · go_ret
                      exact ⟨_, rfl, fin_alloc (fin H0.out HB2.out) HB3.out _⟩
                    · go_roundw
                      case rel => exact ⟨m + 1, by omega, by go_num, HB3.out.alloc HB3.out.size _⟩
                      case measure => simp [intOf]; omega
                  · go_wp2
                    go_roundw
                    case rel => exact ⟨j + 1, by omega, by go_num, fin HB2.out HB3.out⟩
                    case measure => simp [intOf]; omega
            · go_wp2
              go_roundw
              case rel => exact ⟨k + 1, by omega, by go_num, HB2.out⟩
              case measure => simp [intOf]; omega
        · go_wp2
          go_ret
          exact ⟨_, rfl, fin H0.out hbr⟩
set_option maxHeartbeats 2000000 in
set_option maxRecDepth 100000 in
theorem big08_any (rows : List (List Tm)) (a : Option Addr) (c : Nat) (w : World) (hz : Sl (RS RTm 4) 1 w a rows) :
    Calls Tryz.prog 69 #[.agg #[.slice a rows.length c]] w (SomeB w) := by
  have HZ := Lib.hid hz
  have hl1 := hz.len
  clear hz
  by_cases h1 : 20 < rows.length
  · have d1 : decide ((20 : Int) < (rows.length : Int)) = true := by simp; omega
    go_enter Tryz.func69, Tryz.ntmps69
    go_wp2
    go_ret
    exact ⟨_, rfl, b1 _ _⟩
  · have d1 : decide ((20 : Int) < (rows.length : Int)) = false := by simp; omega
    go_enter Tryz.func69, Tryz.ntmps69
    go_wp2
    clear d1
    generalize hW : w.alloc _ = W
    have h0 : Below w.heap.size w W := by subst hW; exact b1 _ _
    have H0 := Lib.hid h0
    clear h0 hW
    go_loopw [4, 6, 14] (fun _ _ i wr => ∃ k : Nat, k ≤ rows.length ∧ i = .int .i64 k ∧ Below W.heap.size W wr) (fun _ _ i _ => rows.length - (intOf i).toNat)
    case atStart => exact ⟨0, by omega, rfl, Below.refl _ _⟩
    case round =>
      obtain ⟨k, hk, rfl, hbr⟩ := hrel
      have HB := Lib.hid hbr
      clear hbr
      by_cases hlt : k < rows.length
      · obtain ⟨x, hx⟩ : ∃ x, rows[k]? = some x := ⟨rows[k], by simp [hlt]⟩
        obtain ⟨b, off, a', c', rfl, hbl, c0, hsx⟩ := (HZ.out.below (stays_RS stays_RTm) (fin H0.out HB.out)).cellRow hx
        have hxlen := hsx.len
        have HSX := Lib.hid hsx
        clear hx hsx
        obtain ⟨wp, rfl⟩ : ∃ wo : World, wo = wr := ⟨_, rfl⟩
        by_cases h20 : 20 < x.length
        · have d20 : decide ((20 : Int) < (x.length : Int)) = true := by simp; omega
          go_wp2
          go_ret
          exact ⟨_, rfl, fin H0.out HB.out⟩
        · have d20 : decide ((20 : Int) < (x.length : Int)) = false := by simp; omega
          go_wp2
          clear c0 d20
          go_loopw [6, 23] (fun _ i wr => ∃ m : Nat, m ≤ x.length ∧ i = .int .i64 m ∧ Below wp.heap.size wp wr) (fun _ i _ => x.length - (intOf i).toNat)
          case atStart => exact ⟨0, by omega, rfl, Below.refl _ _⟩
          case round =>
            obtain ⟨m, hm, rfl, hbr⟩ := hrel
            have HB3 := Lib.hid hbr
            clear hbr
            by_cases hlt3 : m < x.length
            · obtain ⟨y, hy⟩ : ∃ y, x[m]? = some y := ⟨x[m], by simp [hlt3]⟩
              obtain ⟨b3, off3, pa, la, pc, lc, rfl, hbl3, y0, y1, y2, y3, hva⟩ := (HSX.out.below stays_RTm HB3.out).cells4 hy
              have HVA := Lib.hid hva
              clear hy hva
              by_cases h21 : 20 < y.op.size
              · have d21 : decide ((20 : Int) < (y.op.size : Int)) = true := by simp; omega
                go_wp2
                go_ret
                exact ⟨_, rfl, fin_alloc (fin H0.out HB.out) HB3.out _⟩
              · have d21 : decide ((20 : Int) < (y.op.size : Int)) = false := by simp; omega
                go_wp2_with fail
                (with_reducible refine (big07_any y.ver pa la pc lc _ (HVA.out.below (b1 _ _))).mono ?_)
                rintro e w2 ⟨q, rfl, hb⟩
                have HB4 := Lib.hid (fin (HB3.out.alloc HB3.out.size _) hb)
                clear hb
                cases q
                · go_wp2
                  go_roundw
                  case rel => exact ⟨m + 1, by omega, by go_num, HB4.out⟩
                  case measure => simp [intOf]; omega
                · go_wp2
                  go_ret
                  exact ⟨_, rfl, fin (fin H0.out HB.out) HB4.out⟩
            · go_wp2
              go_roundw
              case rel => exact ⟨k + 1, by omega, by go_num, fin HB.out HB3.out⟩
              case measure => simp [intOf]; omega
      · go_wp2
        go_ret
        exact ⟨_, rfl, fin H0.out HB.out⟩
set_option maxHeartbeats 1000000 in
theorem big09_any (s : Sp) (ra : Option Addr) (rc : Nat) (w : World) (hs : SpAt w s ra rc) :
    Calls Tryz.prog 39 #[.agg #[.string s.chan, .string s.name, .slice ra s.rows.length rc, .string s.build, .int .i64 s.num]] w (SomeB w) := by
  have HS := Lib.hid hs
  have hl := hs.rows.len
  clear hs
  go_enter Tryz.func39, Tryz.ntmps39
  go_wp2_with ((go_at_call 69; (with_reducible refine (big08_any s.rows _ _ _ (HS.out.below (b1 _ _)).rows).mono ?_); rintro e w2 ⟨q, rfl, hb⟩; have HB := Lib.hid (fin (b1 _ _) hb); clear hb))
  all_goals
    go_ret
    exact ⟨_, rfl, (by first | exact HB.out | exact b1 _ _)⟩
end Go.Proofs.YtnmcajinaigcjaaGreatDoor

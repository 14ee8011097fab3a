/- Contracts of the document's Same for equal versions, constraints, specs. -/
import Derived.Test.YtpminhafljlldaaDoorDWant
import Derived.Test.YtpminhafljlldaaDoorQFits
namespace Go.Proofs.YtpminhafljlldaaDoor
open Go.RowKit
open Q (It Ver Tm Sp Rc Dm)

/-- true came back, memory stands -/
def YesQ (w : World) (e : Ending) (w' : World) : Prop := e = .returned (.bool true) ∧ Below w.heap.size w w'
set_option maxHeartbeats 2000000 in
set_option maxRecDepth 100000 in
theorem sameRows_self (a b : Option Addr) (c d : Nat) (xs : List (List It)) (w : World) (h1 : Rows2 w a xs) (h2 : Rows2 w b xs) :
    Calls Tryd.prog 101 #[.slice a xs.length c, .slice b xs.length d] w (YesQ w) := by
  have hl := h1.len
  have H1 := Lib.hid h1
  have H2 := Lib.hid h2
  have n1 : ((xs.length : Int) != (xs.length : Int)) = false := by simp
  clear h1 h2
  go_enter Tryd.func101, Tryd.ntmps101
  go_wp2
  clear n1
  go_loopw [5, 6, 14] (fun _ _ i wr => ∃ k : Nat, k ≤ xs.length ∧ i = .int .i64 k ∧ Below w.heap.size w wr) (fun _ _ i _ => xs.length - (intOf i).toNat)
  case atStart => exact ⟨0, by omega, rfl, Below.refl _ _⟩
  case round =>
    obtain ⟨k, hk, rfl, hbr⟩ := hrel
    have HB := Lib.hid hbr
    clear hbr
    by_cases hlt : k < xs.length
    · obtain ⟨x, hx⟩ : ∃ x, xs[k]? = some x := ⟨xs[k], by simp [hlt]⟩
      obtain ⟨b1, o1, a1, c1, rfl, hb1, t1, _, s1⟩ := (H1.out.below HB.out).cell1 hx
      obtain ⟨b2, o2, a2, c2, rfl, hb2, t2, _, s2⟩ := (H2.out.below HB.out).cell1 hx
      have hxl := s1.len
      have HS1 := Lib.hid s1
      have HS2 := Lib.hid s2
      have nx : ((x.length : Int) != (x.length : Int)) = false := by simp
      clear hx s1 s2
      obtain ⟨wo, rfl⟩ : ∃ wo : World, wo = wr := ⟨_, rfl⟩
      go_wp2
      go_quiet (fail)
      go_wp2
      clear nx
      have HBq := Lib.hid (belowN (Below.refl wo.heap.size wo) nq)
      generalize wo.drewN nq = wq at *
      go_loopw [6, 33] (fun _ i wr => ∃ m : Nat, m ≤ x.length ∧ i = .int .i64 m ∧ Below wo.heap.size wo wr) (fun _ i _ => x.length - (intOf i).toNat)
      case atStart => exact ⟨0, by omega, rfl, HBq.out⟩
      case round =>
        obtain ⟨m, hm, rfl, hbr⟩ := hrel
        have HB2 := Lib.hid hbr
        clear hbr
        by_cases hml : m < x.length
        · obtain ⟨y, hy⟩ : ∃ y, x[m]? = some y := ⟨x[m], by simp [hml]⟩
          obtain ⟨b3, o3, rfl, hb3, u1, u2⟩ := (HS1.out.below stays_RIt HB2.out).cells2 hy
          obtain ⟨b4, o4, rfl, hb4, v1, v2⟩ := (HS2.out.below stays_RIt HB2.out).cells2 hy
          have p1 := (HB2.out.cell (p := ⟨b1, o1 + k, none⟩) hb1).trans t1
          have p2 := (HB2.out.cell (p := ⟨b2, o2 + k, none⟩) hb2).trans t2
          clear hy
          go_wp2
          go_quiet (fail)
          go_wp2
          go_roundw
          case rel => exact ⟨m + 1, by omega, by go_num, belowN HB2.out _⟩
          case measure => simp [intOf]; omega
        · go_wp2
          go_roundw
          case rel => exact ⟨k + 1, by omega, by go_num, fin HB.out HB2.out⟩
          case measure => simp [intOf]; omega
    · go_wp2
      go_ret
      exact ⟨rfl, HB.out⟩
set_option maxHeartbeats 1000000 in
theorem same07_self (v : Ver) (pa la pb lb : Option Addr) (pc lc pd ld : Nat) (w : World) (h1 : VerAt w v pa la pc lc) (h2 : VerAt w v pb lb pd ld) :
    Calls Tryd.prog 84 #[.agg #[.int .i64 v.ep, .slice pa v.parts.length pc, .slice la v.loc.length lc], .agg #[.int .i64 v.ep, .slice pb v.parts.length pd, .slice lb v.loc.length ld]] w (YesQ w) := by
  have H1 := Lib.hid h1
  have H2 := Lib.hid h2
  have ne : (v.ep == v.ep) = true := by simp
  clear h1 h2
  go_enter Tryd.func84, Tryd.ntmps84
  go_wp2_with fail
  generalize hW : (w.alloc _).alloc _ = W
  have h0 : Below w.heap.size w W := by subst hW; exact (b1 _ _).alloc (by simp) _
  have hs : ∀ w', Below W.heap.size W w' → w'.cell? ⟨w.heap.size, 2, none⟩ = some (.slice la v.loc.length lc) ∧ w'.cell? ⟨w.heap.size + 1, 2, none⟩ = some (.slice lb v.loc.length ld) := by
    intro w' hb
    have hz : W.heap.size = w.heap.size + 2 := by subst hW; simp
    refine ⟨(hb.cell (by simp; omega)).trans ?_, (hb.cell (by simp; omega)).trans ?_⟩ <;> (subst hW; simp)
  have H0 := Lib.hid h0
  have HS := Lib.hid hs
  clear h0 hs hW ne
  (with_reducible refine (sameRows_self pa pb pc pd v.parts _ (H1.out.below H0.out).parts (H2.out.below H0.out).parts).mono ?_)
  rintro e w2 ⟨rfl, hb⟩
  obtain ⟨k1, k2⟩ := HS.out _ hb
  have HB := Lib.hid (fin H0.out hb)
  clear hb
  go_wp2_with fail
  (with_reducible refine (sameRows_self la lb lc ld v.loc _ (H1.out.below HB.out).loc (H2.out.below HB.out).loc).mono ?_)
  rintro e w3 ⟨rfl, hb⟩
  have HB3 := Lib.hid (fin HB.out hb)
  clear hb
  go_wp2
  go_ret
  exact ⟨rfl, HB3.out⟩
set_option maxHeartbeats 4000000 in
set_option maxRecDepth 100000 in
theorem same08_self (a b : Option Addr) (c d : Nat) (rows : List (List Tm)) (w : World) (h1 : Sl (RS RTm 4) 1 w a rows) (h2 : Sl (RS RTm 4) 1 w b rows) :
    Calls Tryd.prog 62 #[.agg #[.slice a rows.length c], .agg #[.slice b rows.length d]] w (YesQ w) := by
  have hl := h1.len
  have H1 := Lib.hid h1
  have H2 := Lib.hid h2
  have n1 : ((rows.length : Int) != (rows.length : Int)) = false := by simp
  clear h1 h2
  go_enter Tryd.func62, Tryd.ntmps62
  go_wp2
  clear n1
  generalize hW : (w.alloc _).alloc _ = W
  have h0 : Below w.heap.size w W := by subst hW; exact (b1 _ _).alloc (by simp) _
  have hs : ∀ w', Below W.heap.size W w' → w'.cell? ⟨w.heap.size, 0, none⟩ = some (.slice a rows.length c) ∧ w'.cell? ⟨w.heap.size + 1, 0, none⟩ = some (.slice b rows.length d) := by
    intro w' hb
    have hz : W.heap.size = w.heap.size + 2 := by subst hW; simp
    refine ⟨(hb.cell (by simp; omega)).trans ?_, (hb.cell (by simp; omega)).trans ?_⟩ <;> (subst hW; simp)
  have H0 := Lib.hid h0
  have HS := Lib.hid hs
  clear h0 hs hW
  go_loopw [5, 6, 17] (fun _ _ i wr => ∃ k : Nat, k ≤ rows.length ∧ i = .int .i64 k ∧ Below W.heap.size W wr) (fun _ _ i _ => rows.length - (intOf i).toNat)
  case atStart => exact ⟨0, by omega, rfl, Below.refl _ _⟩
  case round =>
    obtain ⟨k, hk, rfl, hbr⟩ := hrel
    have HB := Lib.hid hbr
    obtain ⟨k1, k2⟩ := HS.out _ hbr
    clear hbr
    by_cases hlt : k < rows.length
    · obtain ⟨x, hx⟩ : ∃ x, rows[k]? = some x := ⟨rows[k], by simp [hlt]⟩
      obtain ⟨b1, o1, a1, c1, rfl, hb1, t1, s1⟩ := (H1.out.below (stays_RS stays_RTm) (fin H0.out HB.out)).cellRow hx
      obtain ⟨b2, o2, a2, c2, rfl, hb2, t2, s2⟩ := (H2.out.below (stays_RS stays_RTm) (fin H0.out HB.out)).cellRow hx
      have hxl := s1.len
      have HS1 := Lib.hid s1
      have HS2 := Lib.hid s2
      have nx : ((x.length : Int) != (x.length : Int)) = false := by simp
      clear hx s1 s2
      obtain ⟨wo, rfl⟩ : ∃ wo : World, wo = wr := ⟨_, rfl⟩
      go_wp2
      go_quiet (fail)
      go_wp2
      clear nx k1 k2
      have HBq := Lib.hid (belowN (Below.refl wo.heap.size wo) nq)
      generalize wo.drewN nq = wq at *
      go_loopw [6, 39] (fun _ i wr => ∃ m : Nat, m ≤ x.length ∧ i = .int .i64 m ∧ Below wo.heap.size wo wr) (fun _ i _ => x.length - (intOf i).toNat)
      case atStart => exact ⟨0, by omega, rfl, HBq.out⟩
      case round =>
        obtain ⟨m, hm, rfl, hbr⟩ := hrel
        have HB2 := Lib.hid hbr
        clear hbr
        by_cases hml : m < x.length
        · obtain ⟨y, hy⟩ : ∃ y, x[m]? = some y := ⟨x[m], by simp [hml]⟩
          obtain ⟨b3, o3, pa, la, pc, lc, rfl, hb3, u0, u1, u2, u3, hv1⟩ := (HS1.out.below stays_RTm HB2.out).cells4 hy
          obtain ⟨b4, o4, pb, lb, pd, ld, rfl, hb4, v0, v1, v2, v3, hv2⟩ := (HS2.out.below stays_RTm HB2.out).cells4 hy
          have p1 := (HB2.out.cell (p := ⟨b1, o1 + k, none⟩) hb1).trans t1
          have p2 := (HB2.out.cell (p := ⟨b2, o2 + k, none⟩) hb2).trans t2
          obtain ⟨k1, k2⟩ := HS.out _ (fin HB.out HB2.out)
          have HV1 := Lib.hid hv1
          have HV2 := Lib.hid hv2
          have nop : (y.op.toList == y.op.toList) = true := by simp
          clear hy hv1 hv2
          go_wp2
          have hz1 : w.heap.size < wr.heap.size := cell_lt k1
          have hz2 : w.heap.size + 1 < wr.heap.size := cell_lt k2
          have hq1 : b1 < wr.heap.size := cell_lt p1
          have hq2 : b2 < wr.heap.size := cell_lt p2
          have HAF := Lib.hid (show ∀ w7, Below wr.heap.size wr w7 → (fun w' => w'.cell? ⟨w.heap.size, 0, none⟩ = some (.slice (some ⟨b1, o1, none⟩) rows.length c) ∧ w'.cell? ⟨w.heap.size + 1, 0, none⟩ = some (.slice (some ⟨b2, o2, none⟩) rows.length d) ∧ w'.cell? ⟨b1, o1 + k, none⟩ = some (.slice (some ⟨b3, o3, none⟩) x.length c1) ∧ w'.cell? ⟨b2, o2 + k, none⟩ = some (.slice (some ⟨b4, o4, none⟩) x.length c2) ∧ w'.cell? ⟨b3, o3 + m * 4, none⟩ = some (.string y.op) ∧ w'.cell? ⟨b3, o3 + m * 4 + 1, none⟩ = some (.int .i64 y.ver.ep) ∧ w'.cell? ⟨b3, o3 + m * 4 + 2, none⟩ = some (.slice pa y.ver.parts.length pc) ∧ w'.cell? ⟨b3, o3 + m * 4 + 3, none⟩ = some (.slice la y.ver.loc.length lc) ∧ w'.cell? ⟨b4, o4 + m * 4, none⟩ = some (.string y.op) ∧ w'.cell? ⟨b4, o4 + m * 4 + 1, none⟩ = some (.int .i64 y.ver.ep) ∧ w'.cell? ⟨b4, o4 + m * 4 + 2, none⟩ = some (.slice pb y.ver.parts.length pd) ∧ w'.cell? ⟨b4, o4 + m * 4 + 3, none⟩ = some (.slice lb y.ver.loc.length ld)) w7 from fun w7 hbb => ⟨(hbb.cell (p := ⟨w.heap.size, 0, none⟩) hz1).trans k1, (hbb.cell (p := ⟨w.heap.size + 1, 0, none⟩) hz2).trans k2, (hbb.cell (p := ⟨b1, o1 + k, none⟩) hq1).trans p1, (hbb.cell (p := ⟨b2, o2 + k, none⟩) hq2).trans p2, (hbb.cell (p := ⟨b3, o3 + m * 4, none⟩) hb3).trans u0, (hbb.cell (p := ⟨b3, o3 + m * 4 + 1, none⟩) hb3).trans u1, (hbb.cell (p := ⟨b3, o3 + m * 4 + 2, none⟩) hb3).trans u2, (hbb.cell (p := ⟨b3, o3 + m * 4 + 3, none⟩) hb3).trans u3, (hbb.cell (p := ⟨b4, o4 + m * 4, none⟩) hb4).trans v0, (hbb.cell (p := ⟨b4, o4 + m * 4 + 1, none⟩) hb4).trans v1, (hbb.cell (p := ⟨b4, o4 + m * 4 + 2, none⟩) hb4).trans v2, (hbb.cell (p := ⟨b4, o4 + m * 4 + 3, none⟩) hb4).trans v3⟩)
          go_region_held3 (fun w' => w'.cell? ⟨w.heap.size, 0, none⟩ = some (.slice (some ⟨b1, o1, none⟩) rows.length c) ∧ w'.cell? ⟨w.heap.size + 1, 0, none⟩ = some (.slice (some ⟨b2, o2, none⟩) rows.length d) ∧ w'.cell? ⟨b1, o1 + k, none⟩ = some (.slice (some ⟨b3, o3, none⟩) x.length c1) ∧ w'.cell? ⟨b2, o2 + k, none⟩ = some (.slice (some ⟨b4, o4, none⟩) x.length c2) ∧ w'.cell? ⟨b3, o3 + m * 4, none⟩ = some (.string y.op) ∧ w'.cell? ⟨b3, o3 + m * 4 + 1, none⟩ = some (.int .i64 y.ver.ep) ∧ w'.cell? ⟨b3, o3 + m * 4 + 2, none⟩ = some (.slice pa y.ver.parts.length pc) ∧ w'.cell? ⟨b3, o3 + m * 4 + 3, none⟩ = some (.slice la y.ver.loc.length lc) ∧ w'.cell? ⟨b4, o4 + m * 4, none⟩ = some (.string y.op) ∧ w'.cell? ⟨b4, o4 + m * 4 + 1, none⟩ = some (.int .i64 y.ver.ep) ∧ w'.cell? ⟨b4, o4 + m * 4 + 2, none⟩ = some (.slice pb y.ver.parts.length pd) ∧ w'.cell? ⟨b4, o4 + m * 4 + 3, none⟩ = some (.slice lb y.ver.loc.length ld))
            (first | exact ⟨k1, k2, p1, p2, u0, u1, u2, u3, v0, v1, v2, v3⟩ | exact HAF.out _ hbb | go_keep)
            (first
            | (go_at_call 84; (refine (same07_self y.ver pa la pb lb pc lc pd ld _ (HV1.out.below ((Below.refl _ _).drew)) (HV2.out.below ((Below.refl _ _).drew))).mono ?_); rintro e w7 ⟨rfl, hb⟩; have hbb : Below wr.heap.size wr w7 := fin ((Below.refl _ _).drew) hb; clear hb))
          go_wp2
          go_roundw
          case rel => exact ⟨m + 1, by omega, by go_num, fin HB2.out hbb⟩
          case measure => simp [intOf]; omega
        · go_wp2
          go_roundw
          case rel => exact ⟨k + 1, by omega, by go_num, fin HB.out HB2.out⟩
          case measure => simp [intOf]; omega
    · go_wp2
      go_ret
      exact ⟨rfl, fin H0.out HB.out⟩
set_option maxHeartbeats 1000000 in
theorem same09_self (s : Sp) (ra rb : Option Addr) (rc rd : Nat) (w : World) (h1 : SpAt w s ra rc) (h2 : SpAt w s rb rd) :
    Calls Tryd.prog 34 #[.agg #[.string s.chan, .string s.name, .slice ra s.rows.length rc, .string s.build, .int .i64 s.num], .agg #[.string s.chan, .string s.name, .slice rb s.rows.length rd, .string s.build, .int .i64 s.num]] w (YesQ w) := by
  have H1 := Lib.hid h1
  have H2 := Lib.hid h2
  clear h1 h2
  go_enter Tryd.func34, Tryd.ntmps34
  go_wp2_with fail
  generalize hW : (w.alloc _).alloc _ = W
  have h0 : Below w.heap.size w W := by subst hW; exact (b1 _ _).alloc (by simp) _
  have H0 := Lib.hid h0
  clear h0 hW
  (with_reducible refine (same08_self ra rb rc rd s.rows _ (H1.out.below H0.out).rows (H2.out.below H0.out).rows).mono ?_)
  rintro e w2 ⟨rfl, hb⟩
  have HB := Lib.hid (fin H0.out hb)
  clear hb
  go_wp2
  go_ret
  exact ⟨rfl, HB.out⟩
end Go.Proofs.YtpminhafljlldaaDoor

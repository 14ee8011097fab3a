/- The contract of the document's Holds (rules). -/
import Derived.Test.YtnmcajinaigcjaaGreatDoorJDoc
namespace Go.Proofs.YtnmcajinaigcjaaGreatDoor
open Go.RowKit
open Q (It Ver Tm Sp Rc Dm)

theorem some_step {p : Rc → Bool} {l : List Rc} {ch : List Bool} {k : Nat} {r : Rc} {y : Bool} (hr : l[k]? = some r) (hc : ch[k]? = some y) : Q.some_ p (l.take (k + 1)) (ch.take (k + 1)) = (Q.some_ p (l.take k) (ch.take k) || (y && p r)) := by
  unfold Q.some_
  rw [List.take_add_one, List.take_add_one, hr, hc]
  have e : (l.take k).length = (ch.take k).length := by
    have h1 := (List.getElem?_eq_some_iff.1 hr).1
    have h2 := (List.getElem?_eq_some_iff.1 hc).1
    simp; omega
  rw [show (some r).toList = [r] from rfl, show (some y).toList = [y] from rfl, List.zip_append e, List.any_append]
  simp
set_option maxHeartbeats 4000000 in
set_option maxRecDepth 100000 in
theorem dholds1_any (s : Sp) (ra : Option Addr) (rc : Nat) (a b : Option Addr) (c e : Nat) (l : List Rc) (ch : List Bool) (w : World) (hs : SpAt w s ra rc) (hR : RIn w a b l ch) (hl : ch.length = l.length) :
    Calls Tryz.prog 48 #[.slice a l.length c, .slice b ch.length e, .int .i64 1, .agg #[.string s.chan, .string s.name, .slice ra s.rows.length rc, .string s.build, .int .i64 s.num]] w fun e w' => e = .returned (.bool (Q.some_ (Q.mt s) l ch)) ∧ Below w.heap.size w w' := by
  have HS := Lib.hid hs
  have HR := Lib.hid hR
  have HL := Lib.hid hl
  have hl3 := hR.bools.len
  have hl4 := hR.recs.len
  have n1 : ((ch.length : Int) != (l.length : Int)) = false := by simp [hl]
  clear hs hR hl
  generalize hq : (Q.some_ (Q.mt s) l ch) = q
  have HQ := Lib.hid hq
  clear hq
  go_enter Tryz.func48, Tryz.ntmps48
  go_wp2
  clear n1
  generalize hW : w.alloc _ = W
  have h0 : Below w.heap.size w W := by subst hW; exact b1 _ _
  have hbox : W.heap.size = w.heap.size + 1 ∧ W.cell? ⟨w.heap.size, 0, none⟩ = some (.string s.chan) ∧ W.cell? ⟨w.heap.size, 1, none⟩ = some (.string s.name) ∧ W.cell? ⟨w.heap.size, 2, none⟩ = some (.slice ra s.rows.length rc) ∧ W.cell? ⟨w.heap.size, 3, none⟩ = some (.string s.build) ∧ W.cell? ⟨w.heap.size, 4, none⟩ = some (.int .i64 s.num) := by
    subst hW; refine ⟨?_, ?_, ?_, ?_, ?_, ?_⟩ <;> simp
  have H0 := Lib.hid h0
  have HBX := Lib.hid hbox
  clear h0 hW hbox
  go_loopw [9, 10, 11, 12, 30] (fun ok _ _ _ i wr => ∃ k : Nat, k ≤ l.length ∧ i = .int .i64 k ∧ ok = .bool (Q.some_ (Q.mt s) (l.take k) (ch.take k)) ∧ Below W.heap.size W wr) (fun _ _ _ _ i _ => l.length - (intOf i).toNat)
  case atStart => exact ⟨0, by omega, rfl, rfl, Below.refl _ _⟩
  case round =>
    obtain ⟨k, hk, rfl, rfl, hbr⟩ := hrel
    have HB := Lib.hid hbr
    clear hbr
    by_cases hlt : k < l.length
    · have hltc : k < ch.length := by have := HL.out; omega
      obtain ⟨r, hx⟩ : ∃ x, l[k]? = some x := ⟨l[k], by simp [hlt]⟩
      obtain ⟨y, hy⟩ : ∃ x, ch[k]? = some x := ⟨ch[k], by simp [hltc]⟩
      obtain ⟨bb, off, pa, la, pc, lc, da, dc, ca, cc, fa, fc, rfl, hbl, ⟨t0, t1, t2, t3, t4, t5, t6, t7, t8, t9, t10, t11, t12⟩, hat, _⟩ := (HR.out.recs.below stays_RRc (fin H0.out HB.out)).cellsRc hx
      obtain ⟨b2, o2, rfl, hbl2, hcb⟩ := (HR.out.bools.below (fin H0.out HB.out)).addr (by omega)
      have hcy := hcb k y hy
      have hz : w.heap.size < wr.heap.size := by have := HB.out.size; have := HBX.out.1; omega
      have s0 := (HB.out.cell (p := ⟨w.heap.size, 0, none⟩) (by have := HBX.out.1; simp; omega)).trans HBX.out.2.1
      have s1 := (HB.out.cell (p := ⟨w.heap.size, 1, none⟩) (by have := HBX.out.1; simp; omega)).trans HBX.out.2.2.1
      have s2 := (HB.out.cell (p := ⟨w.heap.size, 2, none⟩) (by have := HBX.out.1; simp; omega)).trans HBX.out.2.2.2.1
      have s3 := (HB.out.cell (p := ⟨w.heap.size, 3, none⟩) (by have := HBX.out.1; simp; omega)).trans HBX.out.2.2.2.2.1
      have s4 := (HB.out.cell (p := ⟨w.heap.size, 4, none⟩) (by have := HBX.out.1; simp; omega)).trans HBX.out.2.2.2.2.2
      have HST := Lib.hid (some_step (p := (Q.mt s)) hx hy)
      have HA := Lib.hid hat
      clear hx hy hcb hat
      generalize hacc : Q.some_ (Q.mt s) (l.take k) (ch.take k) = acc
      have HC := Lib.hid hacc
      clear hacc
      cases y
      · go_wp2
        go_roundw
        case rel => exact ⟨k + 1, by omega, by go_num, (by rw [HST.out, HC.out]; simp), HB.out.alloc HB.out.size _⟩
        case measure => simp [intOf]; omega
      · go_wp2_with fail
        (with_reducible refine (dmatch_any s r ra pa la rc pc lc _ _ _ _ (HS.out.below (fin (fin H0.out HB.out) (b1 _ _))) (HA.out.below (b1 _ _))).mono ?_)
        rintro e w2 ⟨rfl, hb⟩
        have HB2 := Lib.hid (fin (HB.out.alloc HB.out.size _) hb)
        clear hb
        cases hm : Q.mt s r
        · have HM := Lib.hid hm
          clear hm
          cases acc
          all_goals
            go_wp2
            go_roundw
            case rel => exact ⟨k + 1, by omega, by go_num, (by rw [HST.out, HC.out, HM.out]; rfl), HB2.out⟩
            case measure => simp [intOf]; omega
        · have HM := Lib.hid hm
          clear hm
          cases acc
          all_goals
            go_wp2
            go_roundw
            case rel => exact ⟨k + 1, by omega, by go_num, (by rw [HST.out, HC.out, HM.out]; rfl), HB2.out⟩
            case measure => simp [intOf]; omega
    · rw [dsome_app (by omega) (by have := HL.out; omega), HQ.out]
      go_wp2
      go_ret
      exact ⟨rfl, fin H0.out HB.out⟩
set_option maxHeartbeats 4000000 in
set_option maxRecDepth 100000 in
theorem dholds2_any (s : Sp) (ra : Option Addr) (rc : Nat) (a b : Option Addr) (c e : Nat) (l : List Rc) (ch : List Bool) (w : World) (hs : SpAt w s ra rc) (hR : RIn w a b l ch) (hl : ch.length = l.length) :
    Calls Tryz.prog 48 #[.slice a l.length c, .slice b ch.length e, .int .i64 2, .agg #[.string s.chan, .string s.name, .slice ra s.rows.length rc, .string s.build, .int .i64 s.num]] w fun e w' => e = .returned (.bool (!Q.some_ (Q.mt s) l ch)) ∧ Below w.heap.size w w' := by
  have HS := Lib.hid hs
  have HR := Lib.hid hR
  have HL := Lib.hid hl
  have hl3 := hR.bools.len
  have hl4 := hR.recs.len
  have n1 : ((ch.length : Int) != (l.length : Int)) = false := by simp [hl]
  clear hs hR hl
  generalize hq : (!Q.some_ (Q.mt s) l ch) = q
  have HQ := Lib.hid hq
  clear hq
  go_enter Tryz.func48, Tryz.ntmps48
  go_wp2
  clear n1
  generalize hW : w.alloc _ = W
  have h0 : Below w.heap.size w W := by subst hW; exact b1 _ _
  have hbox : W.heap.size = w.heap.size + 1 ∧ W.cell? ⟨w.heap.size, 0, none⟩ = some (.string s.chan) ∧ W.cell? ⟨w.heap.size, 1, none⟩ = some (.string s.name) ∧ W.cell? ⟨w.heap.size, 2, none⟩ = some (.slice ra s.rows.length rc) ∧ W.cell? ⟨w.heap.size, 3, none⟩ = some (.string s.build) ∧ W.cell? ⟨w.heap.size, 4, none⟩ = some (.int .i64 s.num) := by
    subst hW; refine ⟨?_, ?_, ?_, ?_, ?_, ?_⟩ <;> simp
  have H0 := Lib.hid h0
  have HBX := Lib.hid hbox
  clear h0 hW hbox
  go_loopw [9, 10, 11, 12, 30] (fun ok _ _ _ i wr => ∃ k : Nat, k ≤ l.length ∧ i = .int .i64 k ∧ ok = .bool (!Q.some_ (Q.mt s) (l.take k) (ch.take k)) ∧ Below W.heap.size W wr) (fun _ _ _ _ i _ => l.length - (intOf i).toNat)
  case atStart => exact ⟨0, by omega, rfl, rfl, Below.refl _ _⟩
  case round =>
    obtain ⟨k, hk, rfl, rfl, hbr⟩ := hrel
    have HB := Lib.hid hbr
    clear hbr
    by_cases hlt : k < l.length
    · have hltc : k < ch.length := by have := HL.out; omega
      obtain ⟨r, hx⟩ : ∃ x, l[k]? = some x := ⟨l[k], by simp [hlt]⟩
      obtain ⟨y, hy⟩ : ∃ x, ch[k]? = some x := ⟨ch[k], by simp [hltc]⟩
      obtain ⟨bb, off, pa, la, pc, lc, da, dc, ca, cc, fa, fc, rfl, hbl, ⟨t0, t1, t2, t3, t4, t5, t6, t7, t8, t9, t10, t11, t12⟩, hat, _⟩ := (HR.out.recs.below stays_RRc (fin H0.out HB.out)).cellsRc hx
      obtain ⟨b2, o2, rfl, hbl2, hcb⟩ := (HR.out.bools.below (fin H0.out HB.out)).addr (by omega)
      have hcy := hcb k y hy
      have hz : w.heap.size < wr.heap.size := by have := HB.out.size; have := HBX.out.1; omega
      have s0 := (HB.out.cell (p := ⟨w.heap.size, 0, none⟩) (by have := HBX.out.1; simp; omega)).trans HBX.out.2.1
      have s1 := (HB.out.cell (p := ⟨w.heap.size, 1, none⟩) (by have := HBX.out.1; simp; omega)).trans HBX.out.2.2.1
      have s2 := (HB.out.cell (p := ⟨w.heap.size, 2, none⟩) (by have := HBX.out.1; simp; omega)).trans HBX.out.2.2.2.1
      have s3 := (HB.out.cell (p := ⟨w.heap.size, 3, none⟩) (by have := HBX.out.1; simp; omega)).trans HBX.out.2.2.2.2.1
      have s4 := (HB.out.cell (p := ⟨w.heap.size, 4, none⟩) (by have := HBX.out.1; simp; omega)).trans HBX.out.2.2.2.2.2
      have HST := Lib.hid (some_step (p := (Q.mt s)) hx hy)
      have HA := Lib.hid hat
      clear hx hy hcb hat
      generalize hacc : Q.some_ (Q.mt s) (l.take k) (ch.take k) = acc
      have HC := Lib.hid hacc
      clear hacc
      cases y
      · go_wp2
        go_roundw
        case rel => exact ⟨k + 1, by omega, by go_num, (by rw [HST.out, HC.out]; simp), HB.out.alloc HB.out.size _⟩
        case measure => simp [intOf]; omega
      · go_wp2_with fail
        (with_reducible refine (dmatch_any s r ra pa la rc pc lc _ _ _ _ (HS.out.below (fin (fin H0.out HB.out) (b1 _ _))) (HA.out.below (b1 _ _))).mono ?_)
        rintro e w2 ⟨rfl, hb⟩
        have HB2 := Lib.hid (fin (HB.out.alloc HB.out.size _) hb)
        clear hb
        cases hm : Q.mt s r
        · have HM := Lib.hid hm
          clear hm
          cases acc
          all_goals
            go_wp2
            go_roundw
            case rel => exact ⟨k + 1, by omega, by go_num, (by rw [HST.out, HC.out, HM.out]; rfl), HB2.out⟩
            case measure => simp [intOf]; omega
        · have HM := Lib.hid hm
          clear hm
          cases acc
          all_goals
            go_wp2
            go_roundw
            case rel => exact ⟨k + 1, by omega, by go_num, (by rw [HST.out, HC.out, HM.out]; rfl), HB2.out⟩
            case measure => simp [intOf]; omega
    · rw [dsome_app (by omega) (by have := HL.out; omega), HQ.out]
      go_wp2
      go_ret
      exact ⟨rfl, fin H0.out HB.out⟩
set_option maxHeartbeats 4000000 in
set_option maxRecDepth 100000 in
theorem dholds3_any (s : Sp) (ra : Option Addr) (rc : Nat) (a b : Option Addr) (c e : Nat) (l : List Rc) (ch : List Bool) (w : World) (hs : SpAt w s ra rc) (hR : RIn w a b l ch) (hl : ch.length = l.length) :
    Calls Tryz.prog 48 #[.slice a l.length c, .slice b ch.length e, .int .i64 3, .agg #[.string s.chan, .string s.name, .slice ra s.rows.length rc, .string s.build, .int .i64 s.num]] w fun e w' => e = .returned (.bool (!Q.some_ (Q.against s) l ch)) ∧ Below w.heap.size w w' := by
  have HS := Lib.hid hs
  have HR := Lib.hid hR
  have HL := Lib.hid hl
  have hl3 := hR.bools.len
  have hl4 := hR.recs.len
  have n1 : ((ch.length : Int) != (l.length : Int)) = false := by simp [hl]
  clear hs hR hl
  generalize hq : (!Q.some_ (Q.against s) l ch) = q
  have HQ := Lib.hid hq
  clear hq
  go_enter Tryz.func48, Tryz.ntmps48
  go_wp2
  clear n1
  generalize hW : w.alloc _ = W
  have h0 : Below w.heap.size w W := by subst hW; exact b1 _ _
  have hbox : W.heap.size = w.heap.size + 1 ∧ W.cell? ⟨w.heap.size, 0, none⟩ = some (.string s.chan) ∧ W.cell? ⟨w.heap.size, 1, none⟩ = some (.string s.name) ∧ W.cell? ⟨w.heap.size, 2, none⟩ = some (.slice ra s.rows.length rc) ∧ W.cell? ⟨w.heap.size, 3, none⟩ = some (.string s.build) ∧ W.cell? ⟨w.heap.size, 4, none⟩ = some (.int .i64 s.num) := by
    subst hW; refine ⟨?_, ?_, ?_, ?_, ?_, ?_⟩ <;> simp
  have H0 := Lib.hid h0
  have HBX := Lib.hid hbox
  clear h0 hW hbox
  go_loopw [9, 10, 11, 12, 30] (fun ok _ _ _ i wr => ∃ k : Nat, k ≤ l.length ∧ i = .int .i64 k ∧ ok = .bool (!Q.some_ (Q.against s) (l.take k) (ch.take k)) ∧ Below W.heap.size W wr) (fun _ _ _ _ i _ => l.length - (intOf i).toNat)
  case atStart => exact ⟨0, by omega, rfl, rfl, Below.refl _ _⟩
  case round =>
    obtain ⟨k, hk, rfl, rfl, hbr⟩ := hrel
    have HB := Lib.hid hbr
    clear hbr
    by_cases hlt : k < l.length
    · have hltc : k < ch.length := by have := HL.out; omega
      obtain ⟨r, hx⟩ : ∃ x, l[k]? = some x := ⟨l[k], by simp [hlt]⟩
      obtain ⟨y, hy⟩ : ∃ x, ch[k]? = some x := ⟨ch[k], by simp [hltc]⟩
      obtain ⟨bb, off, pa, la, pc, lc, da, dc, ca, cc, fa, fc, rfl, hbl, ⟨t0, t1, t2, t3, t4, t5, t6, t7, t8, t9, t10, t11, t12⟩, hat, _⟩ := (HR.out.recs.below stays_RRc (fin H0.out HB.out)).cellsRc hx
      obtain ⟨b2, o2, rfl, hbl2, hcb⟩ := (HR.out.bools.below (fin H0.out HB.out)).addr (by omega)
      have hcy := hcb k y hy
      have hz : w.heap.size < wr.heap.size := by have := HB.out.size; have := HBX.out.1; omega
      have s0 := (HB.out.cell (p := ⟨w.heap.size, 0, none⟩) (by have := HBX.out.1; simp; omega)).trans HBX.out.2.1
      have s1 := (HB.out.cell (p := ⟨w.heap.size, 1, none⟩) (by have := HBX.out.1; simp; omega)).trans HBX.out.2.2.1
      have s2 := (HB.out.cell (p := ⟨w.heap.size, 2, none⟩) (by have := HBX.out.1; simp; omega)).trans HBX.out.2.2.2.1
      have s3 := (HB.out.cell (p := ⟨w.heap.size, 3, none⟩) (by have := HBX.out.1; simp; omega)).trans HBX.out.2.2.2.2.1
      have s4 := (HB.out.cell (p := ⟨w.heap.size, 4, none⟩) (by have := HBX.out.1; simp; omega)).trans HBX.out.2.2.2.2.2
      have HST := Lib.hid (some_step (p := (Q.against s)) hx hy)
      have HA := Lib.hid hat
      clear hx hy hcb hat
      generalize hacc : Q.some_ (Q.against s) (l.take k) (ch.take k) = acc
      have HC := Lib.hid hacc
      clear hacc
      cases y
      · go_wp2
        go_roundw
        case rel => exact ⟨k + 1, by omega, by go_num, (by rw [HST.out, HC.out]; simp), HB.out.alloc HB.out.size _⟩
        case measure => simp [intOf]; omega
      · go_wp2_with fail
        (with_reducible refine (dmatch_any s r ra pa la rc pc lc _ _ _ _ (HS.out.below (fin (fin H0.out HB.out) (b1 _ _))) (HA.out.below (b1 _ _))).mono ?_)
        rintro e w2 ⟨rfl, hb⟩
        have HB2 := Lib.hid (fin (HB.out.alloc HB.out.size _) hb)
        have q1 : w2.cell? ⟨wr.heap.size, 2, none⟩ = some (.string r.name) := (hb.cell (p := ⟨wr.heap.size, 2, none⟩) (by simp)).trans (by simp)
        have q2 : w2.cell? ⟨w.heap.size, 1, none⟩ = some (.string s.name) := (hb.cell (p := ⟨w.heap.size, 1, none⟩) (by simp; omega)).trans (cell_old s1 _)
        clear hb
        cases hm : Q.mt s r
        · have HM := Lib.hid hm
          clear hm
          cases hn : (r.name.toList == s.name.toList)
          · have HN := Lib.hid (show Q.against s r = false by unfold Q.against; rw [hn, HM.out]; rfl)
            cases acc
            all_goals
              go_wp2
              go_roundw
              case rel => exact ⟨k + 1, by omega, by go_num, (by rw [HST.out, HC.out, HN.out]; rfl), HB2.out⟩
              case measure => simp [intOf]; omega
          · have HN := Lib.hid (show Q.against s r = true by unfold Q.against; rw [hn, HM.out]; rfl)
            cases acc
            all_goals
              go_wp2
              go_roundw
              case rel => exact ⟨k + 1, by omega, by go_num, (by rw [HST.out, HC.out, HN.out]; rfl), HB2.out⟩
              case measure => simp [intOf]; omega
        · have HM := Lib.hid hm
          clear hm
          cases hn : (r.name.toList == s.name.toList)
          · have HN := Lib.hid (show Q.against s r = false by unfold Q.against; rw [hn, HM.out]; rfl)
            cases acc
            all_goals
              go_wp2
              go_roundw
              case rel => exact ⟨k + 1, by omega, by go_num, (by rw [HST.out, HC.out, HN.out]; rfl), HB2.out⟩
              case measure => simp [intOf]; omega
          · have HN := Lib.hid (show Q.against s r = false by unfold Q.against; rw [hn, HM.out]; rfl)
            cases acc
            all_goals
              go_wp2
              go_roundw
              case rel => exact ⟨k + 1, by omega, by go_num, (by rw [HST.out, HC.out, HN.out]; rfl), HB2.out⟩
              case measure => simp [intOf]; omega
    · rw [dsome_app (by omega) (by have := HL.out; omega), HQ.out]
      go_wp2
      go_ret
      exact ⟨rfl, fin H0.out HB.out⟩
set_option maxHeartbeats 1000000 in
theorem dholds_any (how : Int) (s : Sp) (ra : Option Addr) (rc : Nat) (a b : Option Addr) (c e : Nat) (l : List Rc) (ch : List Bool) (w : World) (hs : SpAt w s ra rc) (hw : I64 how) (hR : RIn w a b l ch) :
    Calls Tryz.prog 48 #[.slice a l.length c, .slice b ch.length e, .int .i64 how, .agg #[.string s.chan, .string s.name, .slice ra s.rows.length rc, .string s.build, .int .i64 s.num]] w fun e w' => e = .returned (.bool (Q.dhold how s l ch)) ∧ Below w.heap.size w w' := by
  obtain ⟨hw1, hw2⟩ := hw
  have hl3 := hR.bools.len
  have hl4 := hR.recs.len
  unfold Q.dhold
  by_cases hl : ch.length = l.length
  case neg =>
    rw [if_neg hl]
    have n1 : ((ch.length : Int) != (l.length : Int)) = true := by rw [bne_iff_ne]; omega
    clear hs hR hl
    go_enter Tryz.func48, Tryz.ntmps48
    go_wp2
    go_ret
    exact ⟨rfl, b1 _ _⟩
  rw [if_pos hl]
  by_cases e1 : how = 1
  · subst e1; rw [if_pos rfl]; exact dholds1_any s ra rc a b c e l ch w hs hR hl
  rw [if_neg e1]
  by_cases e2 : how = 2
  · subst e2; rw [if_pos rfl]; exact dholds2_any s ra rc a b c e l ch w hs hR hl
  rw [if_neg e2]
  by_cases e3 : how = 3
  · subst e3; rw [if_pos rfl]; exact dholds3_any s ra rc a b c e l ch w hs hR hl
  rw [if_neg e3]
  have n1 : ((ch.length : Int) != (l.length : Int)) = false := by simp [hl]
  by_cases e4 : how < 1
  · have d1 : decide (how < 1) = true := by simpa using e4
    clear hs hR hl e1 e2 e3
    go_enter Tryz.func48, Tryz.ntmps48
    go_wp2
    go_ret
    exact ⟨rfl, b1 _ _⟩
  · have d1 : decide (how < 1) = false := by simpa using e4
    have e5 : 3 < how := by omega
    have d2 : decide (3 < how) = true := by simpa using e5
    clear hs hR hl e1 e2 e3
    go_enter Tryz.func48, Tryz.ntmps48
    go_wp2
    go_ret
    exact ⟨rfl, b1 _ _⟩
end Go.Proofs.YtnmcajinaigcjaaGreatDoor

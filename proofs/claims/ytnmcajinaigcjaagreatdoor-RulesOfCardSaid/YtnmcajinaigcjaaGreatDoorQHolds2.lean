/- Contracts of rules.Holds, rules.fits. -/
import Derived.Test.YtnmcajinaigcjaaGreatDoorQHolds
namespace Go.Proofs.YtnmcajinaigcjaaGreatDoor
open Go.RowKit
open Q (It Ver Tm Sp Rc Dm)

/-- records and what is chosen, as they came in -/
structure RIn (w : World) (a b : Option Addr) (l : List Rc) (ch : List Bool) : Prop where
  recs : Sl RRc 13 w a l
  bools : Bools w b ch
theorem RIn.below {w w' : World} {a b : Option Addr} {l : List Rc} {ch : List Bool} (h : RIn w a b l ch) (hb : Below w.heap.size w w') : RIn w' a b l ch := ⟨h.recs.below stays_RRc hb, h.bools.below hb⟩
theorem cell_lt {w : World} {b i : Nat} {v : Value} (h : w.cell? ⟨b, i, none⟩ = some v) : b < w.heap.size := by
  rcases Nat.lt_or_ge b w.heap.size with h' | h'
  · exact h'
  · unfold World.cell? at h; rw [Array.getElem?_eq_none (by simpa using h')] at h; simp at h
theorem cell_old {w : World} {b i : Nat} {v : Value} (h : w.cell? ⟨b, i, none⟩ = some v) (o : Obj) : (w.alloc o).cell? ⟨b, i, none⟩ = some v :=
  (((Below.refl w.heap.size w).alloc (Nat.le_refl _) o).cell (p := ⟨b, i, none⟩) (cell_lt h)).trans h
theorem cell_new {w : World} {cs : Array Value} {t n i : Nat} {v : Value} (hn : w.heap.size = n) (h : cs[i]? = some v) : (w.alloc (.cells cs t)).cell? ⟨n, i, none⟩ = some v := by
  subst hn; rw [cell_of_cells (heap_alloc_new w _)]; exact h
set_option maxHeartbeats 2000000 in
set_option maxRecDepth 100000 in
theorem holds_any (d : Dm) (ra : Option Addr) (rc : Nat) (ad : Addr) (a b : Option Addr) (c e : Nat) (l : List Rc) (ch : List Bool) (w : World) (hd : SpAt w d.spec ra rc) (hw : I64 d.how) (hR : RIn w a b l ch) (hE : ErrR w ad) :
    Calls Tryz.prog 99 #[.slice a l.length c, .slice b ch.length e, .agg #[.int .i64 d.how, .string d.spec.chan, .string d.spec.name, .slice ra d.spec.rows.length rc, .string d.spec.build, .int .i64 d.spec.num]] w fun e w' => e = .returned (.bool (Q.holds l ch d)) ∧ Below w.heap.size w w' := by
  have hlen := hR.recs.len
  have hml := hR.bools.len
  obtain ⟨hw1, hw2⟩ := hw
  have h3 : ∀ o o' o'', Below w.heap.size w (((w.alloc o).alloc o').alloc o'') := fun o o' o'' => (((Below.refl _ _).alloc (Nat.le_refl _) o).alloc (by simp) o').alloc (by simp; omega) o''
  have H3 := Lib.hid h3
  generalize hq : Q.holds l ch d = q
  have HQ := Lib.hid hq
  by_cases hl : ch.length = l.length
  · have hne : ((ch.length : Int) != (l.length : Int)) = false := by simp [hl]
    have hBR : RBox (((w.alloc (Obj.cells #[.slice a l.length c] 22)).alloc (Obj.cells #[.slice b ch.length e] 23)).alloc (Obj.cells #[.int .i64 d.how, .string d.spec.chan, .string d.spec.name, .slice ra d.spec.rows.length rc, .string d.spec.build, .int .i64 d.spec.num] 55)) w.heap.size (w.heap.size + 1) a b c e l ch :=
      ⟨by simp; omega, by simp, cell_old (cell_old (cell_new rfl rfl) _) _, cell_old (cell_new (by simp) rfl) _, (hR.below (h3 _ _ _)).recs, (hR.below (h3 _ _ _)).bools, hl⟩
    have hBD : DBox (((w.alloc (Obj.cells #[.slice a l.length c] 22)).alloc (Obj.cells #[.slice b ch.length e] 23)).alloc (Obj.cells #[.int .i64 d.how, .string d.spec.chan, .string d.spec.name, .slice ra d.spec.rows.length rc, .string d.spec.build, .int .i64 d.spec.num] 55)) (w.heap.size + 1 + 1) d ra rc :=
      ⟨by simp, cell_new (by simp) rfl, cell_new (by simp) rfl, cell_new (by simp) rfl, cell_new (by simp) rfl, cell_new (by simp) rfl, cell_new (by simp) rfl, hd.below (h3 _ _ _)⟩
    have hEE := hE.below (h3 (Obj.cells #[.slice a l.length c] 22) (Obj.cells #[.slice b ch.length e] 23) (Obj.cells #[.int .i64 d.how, .string d.spec.chan, .string d.spec.name, .slice ra d.spec.rows.length rc, .string d.spec.build, .int .i64 d.spec.num] 55))
    have HS2 := Lib.hid (some2_any d ra rc ad (w.heap.size + 1 + 1) w.heap.size (w.heap.size + 1) a b c e l ch _ hBD hBR hEE)
    have HS3 := Lib.hid (some3_any d ra rc ad (w.heap.size + 1 + 1) w.heap.size (w.heap.size + 1) a b c e l ch _ hBD hBR hEE)
    have HS4 := Lib.hid (some4_any d ra rc ad (w.heap.size + 1 + 1) w.heap.size (w.heap.size + 1) a b c e l ch _ hBD hBR hEE)
    have HL := Lib.hid hl
    clear hBR hBD hEE hd hR hE hq h3 hl
    by_cases e1 : d.how = 1
    · have f1 : (d.how == 1) = true := by simp [e1]
      have E1 := Lib.hid e1
      clear e1
      go_enter Tryz.func99, Tryz.ntmps99
      go_wp2_with fail
      refine HS2.out.mono ?_
      rintro e w2 ⟨rfl, hb⟩
      have HB := Lib.hid (fin (H3.out _ _ _) hb)
      clear hb
      go_wp2
      go_ret
      exact ⟨ret_bool (by rw [← HQ.out]; unfold Q.holds; rw [if_pos HL.out, if_pos E1.out]), HB.out⟩
    · have f1 : (d.how == 1) = false := by simp [e1]
      by_cases e2 : d.how = 2
      · have f2 : (d.how == 2) = true := by simp [e2]
        have E1 := Lib.hid e1
        have E2 := Lib.hid e2
        clear e1 e2
        go_enter Tryz.func99, Tryz.ntmps99
        go_wp2_with fail
        refine HS3.out.mono ?_
        rintro e w2 ⟨rfl, hb⟩
        have HB := Lib.hid (fin (H3.out _ _ _) hb)
        clear hb
        go_wp2
        go_ret
        exact ⟨ret_bool (by rw [← HQ.out]; unfold Q.holds; rw [if_pos HL.out, if_neg E1.out, if_pos E2.out]), HB.out⟩
      · have f2 : (d.how == 2) = false := by simp [e2]
        by_cases e3 : d.how = 3
        · have f3 : (d.how == 3) = true := by simp [e3]
          have E1 := Lib.hid e1
          have E2 := Lib.hid e2
          have E3 := Lib.hid e3
          clear e1 e2 e3
          go_enter Tryz.func99, Tryz.ntmps99
          go_wp2_with fail
          refine HS4.out.mono ?_
          rintro e w2 ⟨rfl, hb⟩
          have HB := Lib.hid (fin (H3.out _ _ _) hb)
          clear hb
          go_wp2
          go_ret
          exact ⟨ret_bool (by rw [← HQ.out]; unfold Q.holds; rw [if_pos HL.out, if_neg E1.out, if_neg E2.out, if_pos E3.out]), HB.out⟩
        · have f3 : (d.how == 3) = false := by simp [e3]
          have E1 := Lib.hid e1
          have E2 := Lib.hid e2
          have E3 := Lib.hid e3
          clear e1 e2 e3
          go_enter Tryz.func99, Tryz.ntmps99
          go_wp2
          go_ret
          exact ⟨ret_bool (by rw [← HQ.out]; unfold Q.holds; rw [if_pos HL.out, if_neg E1.out, if_neg E2.out, if_neg E3.out]), H3.out _ _ _⟩
  · have hne : ((ch.length : Int) != (l.length : Int)) = true := by rw [bne_iff_ne]; omega
    have HL := Lib.hid hl
    clear hd hR hE hq h3 hl
    go_enter Tryz.func99, Tryz.ntmps99
    go_wp2
    go_ret
    exact ⟨ret_bool (by rw [← HQ.out]; unfold Q.holds; rw [if_neg HL.out]), H3.out _ _ _⟩
end Go.Proofs.YtnmcajinaigcjaaGreatDoor

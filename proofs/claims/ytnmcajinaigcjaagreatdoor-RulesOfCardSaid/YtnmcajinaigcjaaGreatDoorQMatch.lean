/- The contract of spec.Match. -/
import Derived.Test.YtnmcajinaigcjaaGreatDoorQHas
import Derived.Test.YtnmcajinaigcjaaGreatDoorQGlob
namespace Go.Proofs.YtnmcajinaigcjaaGreatDoor
open Go.RowKit
open Q (It Ver Tm Sp Rc Dm)

/-- a spec's value -/
structure SpAt (w : World) (s : Sp) (ra : Option Addr) (rc : Nat) : Prop where
  rows : Sl (RS RTm 4) 1 w ra s.rows
  build : SzS s.build
  num : I64 s.num
theorem SpAt.below {w w' : World} {s : Sp} {ra : Option Addr} {rc : Nat} (h : SpAt w s ra rc) (hb : Below w.heap.size w w') : SpAt w' s ra rc := ⟨h.rows.below (stays_RS stays_RTm) hb, h.build, h.num⟩
theorem RSp.at {w : World} {us : List Value} {s : Sp} (h : RSp w us s) : ∃ ra rc, us = [.string s.chan, .string s.name, .slice ra s.rows.length rc, .string s.build, .int .i64 s.num] ∧ SpAt w s ra rc := by
  obtain ⟨r, h1, h2, h3, h4, h5, ⟨ra, rc, e1, h6, h7⟩⟩ := h
  simp at e1
  subst e1
  exact ⟨ra, rc, h1, h7, h4, h5⟩
/-- a record's value -/
structure RcAt (w : World) (r : Rc) (pa la : Option Addr) (pc lc : Nat) : Prop where
  ver : VerAt w r.ver pa la pc lc
  build : SzS r.build
theorem RcAt.below {w w' : World} {r : Rc} {pa la : Option Addr} {pc lc : Nat} (h : RcAt w r pa la pc lc) (hb : Below w.heap.size w w') : RcAt w' r pa la pc lc := ⟨h.ver.below hb, h.build⟩
set_option maxHeartbeats 2000000 in
set_option maxRecDepth 100000 in
theorem match_any (s : Sp) (r : Rc) (ra pa la : Option Addr) (rc pc lc : Nat) (d1 d2 d3 : Value) (ad : Addr) (w : World) (hs : SpAt w s ra rc) (hr : RcAt w r pa la pc lc) (hE : ErrR w ad) :
    Calls Tryz.prog 33 #[.agg #[.string s.chan, .string s.name, .slice ra s.rows.length rc, .string s.build, .int .i64 s.num], .agg #[.string r.chan, .string r.file, .string r.name, .string r.text, .int .i64 r.ver.ep, .slice pa r.ver.parts.length pc, .slice la r.ver.loc.length lc, .string r.build, .int .i64 r.num, .int .i64 r.time, d1, d2, d3]] w fun e w' => e = .returned (.bool (Q.mt s r)) ∧ Below w.heap.size w w' := by
  have HS := Lib.hid hs
  have HR := Lib.hid hr
  have HE := Lib.hid hE
  have hl1 := hs.rows.len
  clear hs hr hE
  generalize hq : Q.mt s r = q
  have HQ := Lib.hid hq
  clear hq
  go_enter Tryz.func33, Tryz.ntmps33
  have h2 : ∀ o o', Below w.heap.size w ((w.alloc o).alloc o') := fun o o' => ((Below.refl _ _).alloc (Nat.le_refl _) o).alloc (by simp) o'
  have H2 := Lib.hid h2
  clear h2
  generalize hgl : Q.globM s.build.toList r.build.toList = g
  have HG := Lib.hid hgl
  have HGL := Lib.hid (fun W => glob_any s.build r.build W HS.out.build HR.out.build)
  generalize hh : Q.has s.rows r.ver = z
  have HH := Lib.hid hh
  clear hgl hh
  go_wp2_with (first
    | (go_at_call 62; refine (HGL.out _).mono ?_; rintro e w2 ⟨rfl, hb⟩; rw [HG.out];
       have hbw : Below w.heap.size w w2 := fin (H2.out _ _) hb
       have k0 : w2.cell? ⟨w.heap.size, 2, none⟩ = some (.slice ra s.rows.length rc) := (hb.cell (p := ⟨w.heap.size, 2, none⟩) (by simp; try omega)).trans (by simp)
       have k1 : w2.cell? ⟨w.heap.size + 1, 4, none⟩ = some (.int .i64 r.ver.ep) := (hb.cell (p := ⟨w.heap.size + 1, 4, none⟩) (by simp; try omega)).trans (by simp)
       have k2 : w2.cell? ⟨w.heap.size + 1, 5, none⟩ = some (.slice pa r.ver.parts.length pc) := (hb.cell (p := ⟨w.heap.size + 1, 5, none⟩) (by simp; try omega)).trans (by simp)
       have k3 : w2.cell? ⟨w.heap.size + 1, 6, none⟩ = some (.slice la r.ver.loc.length lc) := (hb.cell (p := ⟨w.heap.size + 1, 6, none⟩) (by simp; try omega)).trans (by simp)
       clear hb)
    | (go_at_call 63; (first | (with_reducible refine (has_any s.rows _ _ r.ver pa la pc lc ad _ (HS.out.below hbw).rows (HR.out.below hbw).ver (HE.out.below hbw)).mono ?_) | (refine (has_any s.rows _ _ r.ver pa la pc lc ad _ (HS.out.below (H2.out _ _)).rows (HR.out.below (H2.out _ _)).ver (HE.out.below (H2.out _ _))).mono ?_)); rintro e w3 ⟨rfl, hb3⟩; rw [HH.out]; have hbf : Below w.heap.size w w3 := (by first | exact fin hbw hb3 | exact fin (H2.out _ _) hb3); clear hb3))
  all_goals
    go_ret
    refine ⟨ret_bool ?_, (by first | exact hbf | exact hbw | exact H2.out _ _)⟩
    rw [← HQ.out]
    unfold Q.mt
    rw [HG.out, HH.out]
    simp_all
end Go.Proofs.YtnmcajinaigcjaaGreatDoor

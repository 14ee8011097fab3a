/- Contracts of want.satisfies, all, Has. -/
import Derived.Test.YtnmcajinaigcjaaGreatDoorQShort
namespace Go.Proofs.YtnmcajinaigcjaaGreatDoor
open Go.RowKit
open Q (It Ver Tm Sp Rc Dm)

/-- a version in memory, by its values -/
structure VerAt (w : World) (v : Ver) (pa la : Option Addr) (pc lc : Nat) : Prop where
  parts : Rows2 w pa v.parts
  loc : Rows2 w la v.loc
  pcap : v.parts.length ≤ pc
theorem VerAt.below {w w' : World} {v : Ver} {pa la : Option Addr} {pc lc : Nat} (h : VerAt w v pa la pc lc) (hb : Below w.heap.size w w') : VerAt w' v pa la pc lc := ⟨h.parts.below hb, h.loc.below hb, h.pcap⟩
theorem RVer.at {w : World} {us : List Value} {v : Ver} (h : RVer w us v) : ∃ pa la pc lc, us = [.int .i64 v.ep, .slice pa v.parts.length pc, .slice la v.loc.length lc] ∧ VerAt w v pa la pc lc := by
  obtain ⟨p, l, h1, h2, ⟨pa, pc, e1, h3, h4⟩, ⟨la, lc, e2, h5, h6⟩⟩ := h
  simp at e1 e2
  subst e1 e2
  exact ⟨pa, la, pc, lc, h1, h4, h6, h3.1⟩
def eqL (s : ByteArray) (l : List UInt8) : Bool := s.toList == l
theorem shorter_rows {w : World} {a : Option Addr} {v : Ver} (h : Rows2 w a (v.parts.take (v.parts.length - 1))) (o : Obj) : Rows2 (w.alloc o) a (Q.shorter v).parts := h.below ((Below.refl _ _).alloc (Nat.le_refl _) _)
theorem begins_short (v u : Ver) (pa la a3 : Option Addr) (pc lc c3 : Nat) (w : World) (hv : Rows2 w pa v.parts) (h3 : Rows2 w a3 (u.parts.take (u.parts.length - 1))) (hl2 : v.loc.length ≤ 5864062014805) :
    Calls Tryz.prog 131 #[.agg #[.int .i64 v.ep, .slice pa v.parts.length pc, .slice la v.loc.length lc], .agg #[.int .i64 u.ep, .slice a3 (u.parts.length - 1) c3, .slice none 0 0]] w fun e w' => e = .returned (.bool (Q.begins v (Q.shorter u))) ∧ Below w.heap.size w w' := by
  have h := begins_any v (Q.shorter u) pa la a3 none pc lc c3 0 w hv h3 hl2 (by simp [Q.shorter])
  have e : (Q.shorter u).parts.length = u.parts.length - 1 := by simp [Q.shorter]
  rw [e] at h
  exact h
theorem eqlNilG (a : Addr) (x y : Operand) (w : World) : (eqGuard .eql 28 x y (.iface 226 (.pointer (some a))) .nilIface).run Tryz.prog w = .ok () w := by
  unfold eqGuard; simp
set_option maxHeartbeats 1000000 in
set_option maxRecDepth 100000 in
theorem sat_any (t : Tm) (v : Ver) (pa la pb lb : Option Addr) (pc lc pd ld : Nat) (ad : Addr) (w : World) (hv : VerAt w v pa la pc lc) (ht : VerAt w t.ver pb lb pd ld) (hE : ErrR w ad) :
    Calls Tryz.prog 97 #[.agg #[.string t.op, .int .i64 t.ver.ep, .slice pb t.ver.parts.length pd, .slice lb t.ver.loc.length ld], .agg #[.int .i64 v.ep, .slice pa v.parts.length pc, .slice la v.loc.length lc]] w fun e w' => e = .returned (.bool (Q.sat t v)) ∧ Below w.heap.size w w' := by
  have HV := Lib.hid hv
  have HT := Lib.hid ht
  have HE := Lib.hid hE
  have hl1 := hv.parts.len
  have hl2 := hv.loc.len
  have hl3 := ht.parts.len
  have hl4 := ht.loc.len
  clear hv ht hE
  generalize hr : Q.sat t v = r
  have HR := Lib.hid hr
  clear hr
  go_enter Tryz.func97, Tryz.ntmps97
  go_wp2_with fail
  generalize hW : (w.alloc _).alloc _ = W
  have h0 : Below w.heap.size w W := by subst hW; exact ((Below.refl _ _).alloc (Nat.le_refl _) _).alloc (by simp) _
  have hs : ∀ w', Below W.heap.size W w' → (w'.cell? ⟨w.heap.size, 0, none⟩ = some (.string t.op) ∧ w'.cell? ⟨w.heap.size, 1, none⟩ = some (.int .i64 t.ver.ep) ∧ w'.cell? ⟨w.heap.size, 2, none⟩ = some (.slice pb t.ver.parts.length pd) ∧ w'.cell? ⟨w.heap.size, 3, none⟩ = some (.slice lb t.ver.loc.length ld)) ∧
      (w'.cell? ⟨w.heap.size + 1, 0, none⟩ = some (.int .i64 v.ep) ∧ w'.cell? ⟨w.heap.size + 1, 1, none⟩ = some (.slice pa v.parts.length pc) ∧ w'.cell? ⟨w.heap.size + 1, 2, none⟩ = some (.slice la v.loc.length lc)) := by
    intro w' hb
    have hz : W.heap.size = w.heap.size + 2 := by subst hW; simp
    refine ⟨⟨(hb.cell (by simp; omega)).trans ?_, (hb.cell (by simp; omega)).trans ?_, (hb.cell (by simp; omega)).trans ?_, (hb.cell (by simp; omega)).trans ?_⟩, (hb.cell (by simp; omega)).trans ?_, (hb.cell (by simp; omega)).trans ?_, (hb.cell (by simp; omega)).trans ?_⟩ <;> (subst hW; simp)
  have hzW : w.heap.size + 1 < W.heap.size := by subst hW; simp
  have HS := Lib.hid hs
  have H0 := Lib.hid h0
  clear hs h0 hW
  refine (cmpV_any v t.ver _ _ _ _ _ _ _ _ _ (HV.out.below H0.out).parts (HV.out.below H0.out).loc (HT.out.below H0.out).parts (HT.out.below H0.out).loc).mono ?_
  rintro e w2 ⟨rfl, hb2⟩
  obtain ⟨⟨q0, q1, q2, q3⟩, q4, q5, q6⟩ := HS.out _ hb2
  have hz2 : w.heap.size + 1 < w2.heap.size := Nat.lt_of_lt_of_le hzW hb2.size
  have HB2 := Lib.hid hb2
  clear hb2
  go_wp2_with fail
  rotate_left 7
  · refine (begins_any v t.ver _ _ _ _ _ _ _ _ _ (HV.out.below (fin H0.out HB2.out)).parts (HT.out.below (fin H0.out HB2.out)).parts hl2 hl4).mono ?_
    rintro e w3 ⟨rfl, hb3⟩
    go_wp2
    go_ret
    exact ⟨ret_bool (by rw [← HR.out]; unfold Q.sat; simp_all), fin (fin H0.out HB2.out) hb3⟩
  · by_cases hp : 2 ≤ t.ver.parts.length
    · refine (shorter_ok t.ver _ _ _ _ _ hp (HT.out.below (fin H0.out HB2.out)).parts HT.out.pcap).mono ?_
      rintro e w3 ⟨a3, c3, rfl, hr3, hb3⟩
      obtain ⟨⟨p0, p1, p2, p3⟩, p4, p5, p6⟩ := HS.out _ (fin HB2.out hb3)
      have hz3 : w.heap.size + 1 < w3.heap.size := Nat.lt_of_lt_of_le hz2 hb3.size
      have hz4 : w.heap.size < w3.heap.size := by omega
      have HB3 := Lib.hid hb3
      have HR3 := Lib.hid hr3
      clear hb3 hr3
      by_cases hc0 : 0 ≤ Q.cmpV v t.ver
      · go_wp2_with fail
        have hbs : Below w.heap.size w (w3.alloc (Obj.cells #[.int .i64 t.ver.ep, .slice a3 (t.ver.parts.length - 1) c3, .slice none 0 0] 66)) := fin_alloc (fin H0.out HB2.out) HB3.out _
        (with_reducible refine (begins_short v t.ver pa la a3 pc lc c3 _ (HV.out.below hbs).parts (HR3.out.below ((Below.refl _ _).alloc (Nat.le_refl _) _)) hl2).mono ?_)
        rintro e w4 ⟨rfl, hb4⟩
        go_wp2
        go_ret
        refine ⟨ret_bool ?_, fin hbs hb4⟩
        rw [← HR.out]
        unfold Q.sat
        simp_all
      · have hd0 : decide (0 ≤ Q.cmpV v t.ver) = false := by simpa using hc0
        go_wp2
        go_ret
        refine ⟨ret_bool ?_, fin_alloc (fin H0.out HB2.out) HB3.out _⟩
        rw [← HR.out]
        unfold Q.sat
        simp_all
        intro hx; omega
    · refine (shorter_bad t.ver _ _ _ _ _ ad (by omega) (HE.out.below (fin H0.out HB2.out))).mono ?_
      rintro e w3 ⟨rfl, hb3⟩
      have HB3 := Lib.hid hb3
      have hgd := eqlNilG ad
      clear hb3
      go_wp2
      go_ret
      refine ⟨ret_bool ?_, fin_alloc (fin H0.out HB2.out) HB3.out _⟩
      rw [← HR.out]
      have hp2 : decide (2 ≤ t.ver.parts.length) = false := by simpa using hp
      clear hgd
      unfold Q.sat
      simp_all
      intro hx; omega
  all_goals
    go_ret
    refine ⟨ret_bool ?_, fin H0.out HB2.out⟩
    rw [← HR.out]
    unfold Q.sat
    simp_all

theorem Sl.cells4 {w : World} {a : Option Addr} {xs : List Tm} (h : Sl RTm 4 w a xs) {i : Nat} {x : Tm} (hx : xs[i]? = some x) :
    ∃ b off pa la pc lc, a = some ⟨b, off, none⟩ ∧ b < w.heap.size ∧ w.cell? ⟨b, off + i * 4, none⟩ = some (.string x.op) ∧ w.cell? ⟨b, off + i * 4 + 1, none⟩ = some (.int .i64 x.ver.ep) ∧ w.cell? ⟨b, off + i * 4 + 2, none⟩ = some (.slice pa x.ver.parts.length pc) ∧ w.cell? ⟨b, off + i * 4 + 3, none⟩ = some (.slice la x.ver.loc.length lc) ∧ VerAt w x.ver pa la pc lc := by
  obtain ⟨b, off, e, hlt, hc⟩ := h.addr (by have := (List.getElem?_eq_some_iff.1 hx).1; omega)
  obtain ⟨us, u1, u2, vs, u3, _, u4⟩ := hc i x hx
  obtain ⟨pa, la, pc, lc, u5, u6⟩ := u4.at
  rw [u3, u5] at u2
  exact ⟨b, off, pa, la, pc, lc, e, hlt, by simpa using u2 0 (by omega), by simpa using u2 1 (by omega), by simpa using u2 2 (by omega), by simpa using u2 3 (by omega), u6⟩
/-- the closure of want.Has over a version -/
def VBox (w : World) (B : Nat) (v : Ver) (pa la : Option Addr) (pc lc : Nat) : Prop :=
  B < w.heap.size ∧ w.cell? ⟨B, 0, none⟩ = some (.int .i64 v.ep) ∧ w.cell? ⟨B, 1, none⟩ = some (.slice pa v.parts.length pc) ∧ w.cell? ⟨B, 2, none⟩ = some (.slice la v.loc.length lc)
theorem VBox.below {w w' : World} {B : Nat} {v : Ver} {pa la : Option Addr} {pc lc : Nat} (h : VBox w B v pa la pc lc) (hb : Below w.heap.size w w') : VBox w' B v pa la pc lc :=
  ⟨Nat.lt_of_lt_of_le h.1 hb.size, (hb.cell (p := ⟨B, 0, none⟩) h.1).trans h.2.1, (hb.cell (p := ⟨B, 1, none⟩) h.1).trans h.2.2.1, (hb.cell (p := ⟨B, 2, none⟩) h.1).trans h.2.2.2⟩
end Go.Proofs.YtnmcajinaigcjaaGreatDoor

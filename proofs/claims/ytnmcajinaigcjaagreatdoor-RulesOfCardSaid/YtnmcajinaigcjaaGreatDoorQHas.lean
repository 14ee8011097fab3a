/- Contracts of want.all, want.Has and the closures between. -/
import Derived.Test.YtnmcajinaigcjaaGreatDoorQWant
namespace Go.Proofs.YtnmcajinaigcjaaGreatDoor
open Go.RowKit
open Q (It Ver Tm Sp Rc Dm)

def tmV (t : Tm) (pb lb : Option Addr) (pd ld : Nat) : Value := .agg #[.string t.op, .int .i64 t.ver.ep, .slice pb t.ver.parts.length pd, .slice lb t.ver.loc.length ld]
set_option maxHeartbeats 1000000 in
theorem has11_any (t : Tm) (v : Ver) (pa la pb lb : Option Addr) (pc lc pd ld : Nat) (ad : Addr) (B : Nat) (w : World) (hB : VBox w B v pa la pc lc) (hv : VerAt w v pa la pc lc) (ht : VerAt w t.ver pb lb pd ld) (hE : ErrR w ad) :
    Calls Tryz.prog 96 #[.agg #[.string t.op, .int .i64 t.ver.ep, .slice pb t.ver.parts.length pd, .slice lb t.ver.loc.length ld], .pointer (some ⟨B, 0, none⟩)] w fun e w' => e = .returned (.bool (Q.sat t v)) ∧ Below w.heap.size w w' := by
  obtain ⟨hBl, b0, b1, b2⟩ := hB
  have HV := Lib.hid hv
  have HT := Lib.hid ht
  have HE := Lib.hid hE
  clear hv ht hE
  go_enter Tryz.func96, Tryz.ntmps96
  go_wp2_with fail
  have h0 : ∀ o, Below w.heap.size w (w.alloc o) := fun o => (Below.refl _ _).alloc (Nat.le_refl _) o
  (with_reducible refine (sat_any t v pa la pb lb pc lc pd ld ad _ (HV.out.below (h0 _)) (HT.out.below (h0 _)) (HE.out.below (h0 _))).mono ?_)
  rintro e w2 ⟨rfl, hb⟩
  have H := Lib.hid (fin (h0 _) hb)
  clear h0 hb
  go_wp2
  go_ret
  exact ⟨rfl, H.out⟩
/-- what want.all's closure captures: a box with want.Has' inner closure -/
def FBox (w : World) (C B : Nat) : Prop := C < w.heap.size ∧ w.cell? ⟨C, 0, none⟩ = some (.func (.func 96) #[] #[.pointer (some ⟨B, 0, none⟩)])
theorem FBox.below {w w' : World} {B C : Nat} (h : FBox w C B) (hb : Below w.heap.size w w') : FBox w' C B := ⟨Nat.lt_of_lt_of_le h.1 hb.size, (hb.cell (p := ⟨C, 0, none⟩) h.1).trans h.2⟩
set_option maxHeartbeats 1000000 in
theorem all1_any (t : Tm) (v : Ver) (pa la pb lb : Option Addr) (pc lc pd ld : Nat) (ad : Addr) (B C : Nat) (w : World) (hC : FBox w C B) (hB : VBox w B v pa la pc lc) (hv : VerAt w v pa la pc lc) (ht : VerAt w t.ver pb lb pd ld) (hE : ErrR w ad) :
    Calls Tryz.prog 129 #[.agg #[.string t.op, .int .i64 t.ver.ep, .slice pb t.ver.parts.length pd, .slice lb t.ver.loc.length ld], .pointer (some ⟨C, 0, none⟩)] w fun e w' => e = .returned (.bool (!Q.sat t v)) ∧ Below w.heap.size w w' := by
  obtain ⟨hCl, c0⟩ := hC
  have HBX := Lib.hid hB
  have HV := Lib.hid hv
  have HT := Lib.hid ht
  have HE := Lib.hid hE
  clear hv ht hE hB
  go_enter Tryz.func129, Tryz.ntmps129
  go_wp2_with fail
  have h0 : ∀ o, Below w.heap.size w (w.alloc o) := fun o => (Below.refl _ _).alloc (Nat.le_refl _) o
  (with_reducible refine (has11_any t v pa la pb lb pc lc pd ld ad B _ (HBX.out.below (h0 _)) (HV.out.below (h0 _)) (HT.out.below (h0 _)) (HE.out.below (h0 _))).mono ?_)
  rintro e w2 ⟨rfl, hb⟩
  have H := Lib.hid (fin (h0 _) hb)
  clear h0 hb
  go_wp2
  go_ret
  exact ⟨rfl, H.out⟩
/-- the place of the first that is such -/
def idx {α : Type} (p : α → Bool) (l : List α) : Int := if l.any p then ((l.takeWhile fun x => !p x).length : Int) else -1
theorem any_hit {α : Type} {p : α → Bool} {l : List α} {k : Nat} {x : α} (h : l[k]? = some x) (hx : p x = true) : l.any p = true := List.any_eq_true.2 ⟨x, List.mem_of_getElem? h, hx⟩
theorem any_snoc {α : Type} {p : α → Bool} {l : List α} {k : Nat} {x : α} (h : l[k]? = some x) (h0 : (l.take k).any p = false) (hx : p x = false) : (l.take (k + 1)).any p = false := by
  rw [List.take_add_one, h, List.any_append, h0]; simp [hx]
/-- a place, or -1: is it found -/
def Found (b : Bool) (w : World) (e : Ending) (w' : World) : Prop := ∃ k : Int, e = .returned (.int .i64 k) ∧ decide (0 ≤ k) = b ∧ Below w.heap.size w w'
set_option maxHeartbeats 1000000 in
set_option maxRecDepth 100000 in
theorem indexT_any (row : List Tm) (a : Option Addr) (c : Nat) (v : Ver) (pa la : Option Addr) (pc lc : Nat) (ad : Addr) (B C : Nat) (w : World) (hz : Sl RTm 4 w a row) (hC : FBox w C B) (hB : VBox w B v pa la pc lc) (hv : VerAt w v pa la pc lc) (hE : ErrR w ad) :
    Calls Tryz.prog 148 #[.slice a row.length c, .func (.func 129) #[] #[.pointer (some ⟨C, 0, none⟩)]] w (Found (row.any fun t => !Q.sat t v) w) := by
  have hlen := hz.len
  have HZ := Lib.hid hz
  have HC := Lib.hid hC
  have HBX := Lib.hid hB
  have HV := Lib.hid hv
  have HE := Lib.hid hE
  clear hz hC hB hv hE
  generalize hr : (row.any fun t => !Q.sat t v) = r
  have HR := Lib.hid hr
  clear hr
  go_enter Tryz.func148, Tryz.ntmps148
  go_wp2
  go_loopw [5, 8] (fun _ i wr => ∃ k : Nat, k ≤ row.length ∧ i = .int .i64 k ∧ (row.take k).any (fun t => !Q.sat t v) = false ∧ Below w.heap.size w wr) (fun _ i _ => row.length - (intOf i).toNat)
  case atStart => exact ⟨0, Nat.zero_le _, rfl, rfl, Below.refl _ _⟩
  case round =>
    obtain ⟨k, hk, rfl, hf, hbr⟩ := hrel
    have HF := Lib.hid hf
    have HB := Lib.hid hbr
    clear hf hbr
    by_cases hlt : k < row.length
    · obtain ⟨x, hx⟩ : ∃ x, row[k]? = some x := ⟨row[k], by simp [hlt]⟩
      obtain ⟨b, off, pb, lb, pd, ld, rfl, hbl, c0, c1, c2, c3, hvx⟩ := (HZ.out.below stays_RTm HB.out).cells4 hx
      have HX := Lib.hid hx
      have HVX := Lib.hid hvx
      clear hx hvx
      go_wp2_with fail
      (with_reducible refine (rel HB.out (all1_any x v pa la pb lb pc lc pd ld ad B C _ (HC.out.below HB.out) (HBX.out.below HB.out) (HV.out.below HB.out) HVX.out (HE.out.below HB.out))).mono ?_)
      rintro e w2 ⟨rfl, hb⟩
      cases hs : Q.sat x v
      · go_wp2
        go_ret
        exact ⟨k, rfl, by rw [← HR.out, any_hit HX.out (by rw [hs]; rfl)]; simp, hb⟩
      · go_wp2
        go_roundw
        case rel => exact ⟨k + 1, by omega, by go_num, any_snoc HX.out HF.out (by rw [hs]; rfl), hb⟩
        case measure => simp [intOf]; omega
    · go_wp2
      go_ret
      refine ⟨-1, rfl, ?_, HB.out⟩
      have := HF.out
      rw [List.take_of_length_le (by omega)] at this
      rw [← HR.out, this]; rfl
theorem containsT_any (row : List Tm) (a : Option Addr) (c : Nat) (v : Ver) (pa la : Option Addr) (pc lc : Nat) (ad : Addr) (B C : Nat) (w : World) (hz : Sl RTm 4 w a row) (hC : FBox w C B) (hB : VBox w B v pa la pc lc) (hv : VerAt w v pa la pc lc) (hE : ErrR w ad) :
    Calls Tryz.prog 128 #[.slice a row.length c, .func (.func 129) #[] #[.pointer (some ⟨C, 0, none⟩)]] w fun e w' => e = .returned (.bool (row.any fun t => !Q.sat t v)) ∧ Below w.heap.size w w' := by
  generalize hr : (row.any fun t => !Q.sat t v) = r
  have HI := Lib.hid (hr ▸ indexT_any row a c v pa la pc lc ad B C w hz hC hB hv hE)
  clear hz hC hB hv hE hr
  go_enter Tryz.func128, Tryz.ntmps128
  go_wp2_with fail
  refine HI.out.mono ?_
  rintro e w2 ⟨k, rfl, hk, hb⟩
  have HK := Lib.hid hk
  clear hk
  go_wp2
  go_ret
  exact ⟨ret_bool HK.out, hb⟩
set_option maxHeartbeats 1000000 in
theorem wall_any (row : List Tm) (a : Option Addr) (c : Nat) (v : Ver) (pa la : Option Addr) (pc lc : Nat) (ad : Addr) (B : Nat) (w : World) (hz : Sl RTm 4 w a row) (hB : VBox w B v pa la pc lc) (hv : VerAt w v pa la pc lc) (hE : ErrR w ad) :
    Calls Tryz.prog 95 #[.slice a row.length c, .func (.func 96) #[] #[.pointer (some ⟨B, 0, none⟩)]] w fun e w' => e = .returned (.bool (row.all fun t => Q.sat t v)) ∧ Below w.heap.size w w' := by
  have h0 : ∀ o, Below w.heap.size w (w.alloc o) := fun o => (Below.refl _ _).alloc (Nat.le_refl _) o
  have hC : FBox (w.alloc (Obj.cells #[.func (.func 96) #[] #[.pointer (some ⟨B, 0, none⟩)]] 168)) w.heap.size B := ⟨by simp, by simp⟩
  have HI := Lib.hid (containsT_any row a c v pa la pc lc ad B w.heap.size _ (hz.below stays_RTm (h0 _)) hC (hB.below (h0 _)) (hv.below (h0 _)) (hE.below (h0 _)))
  have e0 : (row.all fun t => Q.sat t v) = !(row.any fun t => !Q.sat t v) := by rw [List.all_eq_not_any_not]
  rw [e0]
  generalize hr : (row.any fun t => !Q.sat t v) = r at HI
  clear hz hB hv hE hr hC h0 e0
  go_enter Tryz.func95, Tryz.ntmps95
  go_wp2_with fail
  refine HI.out.mono ?_
  rintro e w2 ⟨rfl, hb⟩
  have HB := Lib.hid (fin ((Below.refl _ _).alloc (Nat.le_refl _) _) hb)
  clear hb
  go_wp2
  go_ret
  exact ⟨rfl, HB.out⟩
theorem has1_any (row : List Tm) (a : Option Addr) (c : Nat) (v : Ver) (pa la : Option Addr) (pc lc : Nat) (ad : Addr) (B : Nat) (w : World) (hz : Sl RTm 4 w a row) (hB : VBox w B v pa la pc lc) (hv : VerAt w v pa la pc lc) (hE : ErrR w ad) :
    Calls Tryz.prog 94 #[.slice a row.length c, .pointer (some ⟨B, 0, none⟩)] w fun e w' => e = .returned (.bool (row.all fun t => Q.sat t v)) ∧ Below w.heap.size w w' := by
  have HI := Lib.hid (wall_any row a c v pa la pc lc ad B w hz hB hv hE)
  generalize hr : (row.all fun t => Q.sat t v) = r at HI
  clear hz hB hv hE hr
  go_enter Tryz.func94, Tryz.ntmps94
  go_wp2_with fail
  refine HI.out.mono ?_
  rintro e w2 ⟨rfl, hb⟩
  go_wp2
  go_ret
  exact ⟨rfl, hb⟩
theorem Sl.cellRow {w : World} {a : Option Addr} {xs : List (List Tm)} (h : Sl (RS RTm 4) 1 w a xs) {i : Nat} {x : List Tm} (hx : xs[i]? = some x) :
    ∃ b off a' c', a = some ⟨b, off, none⟩ ∧ b < w.heap.size ∧ w.cell? ⟨b, off + i, none⟩ = some (.slice a' x.length c') ∧ Sl RTm 4 w a' x := by
  obtain ⟨b, off, e, hlt, hc⟩ := h.addr (by have := (List.getElem?_eq_some_iff.1 hx).1; omega)
  obtain ⟨us, u1, u2, a', c', u3, u4, u5⟩ := hc i x hx
  have c0 := u2 0 (by omega)
  rw [u3] at c0
  exact ⟨b, off, a', c', e, hlt, by simpa using c0, u5⟩
set_option maxHeartbeats 1000000 in
set_option maxRecDepth 100000 in
theorem indexR_any (rows : List (List Tm)) (a : Option Addr) (c : Nat) (v : Ver) (pa la : Option Addr) (pc lc : Nat) (ad : Addr) (B : Nat) (w : World) (hz : Sl (RS RTm 4) 1 w a rows) (hB : VBox w B v pa la pc lc) (hv : VerAt w v pa la pc lc) (hE : ErrR w ad) :
    Calls Tryz.prog 127 #[.slice a rows.length c, .func (.func 94) #[] #[.pointer (some ⟨B, 0, none⟩)]] w (Found (Q.has rows v) w) := by
  have hlen := hz.len
  have HZ := Lib.hid hz
  have HBX := Lib.hid hB
  have HV := Lib.hid hv
  have HE := Lib.hid hE
  clear hz hB hv hE
  generalize hr : Q.has rows v = r
  have HR := Lib.hid hr
  clear hr
  go_enter Tryz.func127, Tryz.ntmps127
  go_wp2
  go_loopw [5, 8] (fun _ i wr => ∃ k : Nat, k ≤ rows.length ∧ i = .int .i64 k ∧ (rows.take k).any (fun row => row.all fun t => Q.sat t v) = false ∧ Below w.heap.size w wr) (fun _ i _ => rows.length - (intOf i).toNat)
  case atStart => exact ⟨0, Nat.zero_le _, rfl, rfl, Below.refl _ _⟩
  case round =>
    obtain ⟨k, hk, rfl, hf, hbr⟩ := hrel
    have HF := Lib.hid hf
    have HB := Lib.hid hbr
    clear hf hbr
    by_cases hlt : k < rows.length
    · obtain ⟨x, hx⟩ : ∃ x, rows[k]? = some x := ⟨rows[k], by simp [hlt]⟩
      obtain ⟨b, off, a', c', rfl, hbl, c0, hsx⟩ := (HZ.out.below (stays_RS stays_RTm) HB.out).cellRow hx
      have HX := Lib.hid hx
      have HSX := Lib.hid hsx
      clear hx hsx
      go_wp2_with fail
      (with_reducible refine (rel HB.out (has1_any x _ _ v pa la pc lc ad B _ HSX.out (HBX.out.below HB.out) (HV.out.below HB.out) (HE.out.below HB.out))).mono ?_)
      rintro e w2 ⟨rfl, hb⟩
      generalize hs : (x.all fun t => Q.sat t v) = s
      have HS := Lib.hid hs
      clear hs
      cases s
      · go_wp2
        go_roundw
        case rel => exact ⟨k + 1, by omega, by go_num, any_snoc HX.out HF.out HS.out, hb⟩
        case measure => simp [intOf]; omega
      · go_wp2
        go_ret
        exact ⟨k, rfl, by rw [← HR.out]; unfold Q.has; rw [any_hit HX.out HS.out]; simp, hb⟩
    · go_wp2
      go_ret
      refine ⟨-1, rfl, ?_, HB.out⟩
      have := HF.out
      rw [List.take_of_length_le (by omega)] at this
      rw [← HR.out]; unfold Q.has; rw [this]; rfl
theorem containsR_any (rows : List (List Tm)) (a : Option Addr) (c : Nat) (v : Ver) (pa la : Option Addr) (pc lc : Nat) (ad : Addr) (B : Nat) (w : World) (hz : Sl (RS RTm 4) 1 w a rows) (hB : VBox w B v pa la pc lc) (hv : VerAt w v pa la pc lc) (hE : ErrR w ad) :
    Calls Tryz.prog 93 #[.slice a rows.length c, .func (.func 94) #[] #[.pointer (some ⟨B, 0, none⟩)]] w fun e w' => e = .returned (.bool (Q.has rows v)) ∧ Below w.heap.size w w' := by
  have HI := Lib.hid (indexR_any rows a c v pa la pc lc ad B w hz hB hv hE)
  clear hz hB hv hE
  go_enter Tryz.func93, Tryz.ntmps93
  go_wp2_with fail
  refine HI.out.mono ?_
  rintro e w2 ⟨k, rfl, hk, hb⟩
  have HK := Lib.hid hk
  clear hk
  go_wp2
  go_ret
  exact ⟨ret_bool HK.out, hb⟩
set_option maxHeartbeats 1000000 in
theorem has_any (rows : List (List Tm)) (a : Option Addr) (c : Nat) (v : Ver) (pa la : Option Addr) (pc lc : Nat) (ad : Addr) (w : World) (hz : Sl (RS RTm 4) 1 w a rows) (hv : VerAt w v pa la pc lc) (hE : ErrR w ad) :
    Calls Tryz.prog 63 #[.agg #[.slice a rows.length c], .agg #[.int .i64 v.ep, .slice pa v.parts.length pc, .slice la v.loc.length lc]] w fun e w' => e = .returned (.bool (Q.has rows v)) ∧ Below w.heap.size w w' := by
  have hlen := hz.len
  have h0 : ∀ o o', Below w.heap.size w ((w.alloc o).alloc o') := fun o o' => ((Below.refl _ _).alloc (Nat.le_refl _) o).alloc (by simp) o'
  have hC : ∀ o, VBox ((w.alloc o).alloc (Obj.cells #[.int .i64 v.ep, .slice pa v.parts.length pc, .slice la v.loc.length lc] 66)) (w.heap.size + 1) v pa la pc lc := fun o => ⟨by simp, by simp, by simp, by simp⟩
  have HI := Lib.hid (fun o => containsR_any rows a c v pa la pc lc ad (w.heap.size + 1) _ (hz.below (stays_RS stays_RTm) (h0 o _)) (hC o) (hv.below (h0 o _)) (hE.below (h0 o _)))
  clear hz hv hE hC h0
  go_enter Tryz.func63, Tryz.ntmps63
  go_wp2_with fail
  refine (HI.out _).mono ?_
  rintro e w2 ⟨rfl, hb⟩
  have HB := Lib.hid (fin (((Below.refl _ _).alloc (Nat.le_refl _) _).alloc (by simp) _) hb)
  clear hb
  go_wp2
  go_ret
  exact ⟨rfl, HB.out⟩
end Go.Proofs.YtnmcajinaigcjaaGreatDoor

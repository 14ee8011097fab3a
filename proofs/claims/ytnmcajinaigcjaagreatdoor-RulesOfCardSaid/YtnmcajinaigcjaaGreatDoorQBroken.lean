/- The contract of rules.Broken. -/
import Derived.Test.YtnmcajinaigcjaaGreatDoorQFits
namespace Go.Proofs.YtnmcajinaigcjaaGreatDoor
open Go.RowKit
open Q (It Ver Tm Sp Rc Dm)

theorem Tryz.infoInt : (Tryz.prog.info? 3).map (fun i => (i.zero, i.size, i.bytes)) = some (some (.int .i64 0), 1, 8) := by kernel_rfl
def RI : Rd Int := fun _ us z => us = [.int .i64 z]
theorem flat_ints (w : World) (zs : List Int) : Flat RI 1 w zs (zs.map (Value.int .i64)) := by
  refine ⟨by simp, fun i z hz => ⟨[.int .i64 z], rfl, fun j hj => ?_, rfl⟩⟩
  obtain rfl : j = 0 := by omega
  simp [hz]
/-- a new list of ints -/
def NewInts (w : World) (zs : List Int) (e : Ending) (w' : World) : Prop := ∃ a c, e = .returned (.slice a zs.length c) ∧ Sl RI 1 w' a zs ∧ Below w.heap.size w w'
/-- how a demand is broken -/
def brk (l : List Rc) (on ch : List Bool) (d : Dm) : Bool := !decide (on.length = l.length) || !decide (ch.length = l.length) || !Q.holds l ch d
theorem broken_app (l : List Rc) (on ch : List Bool) : ∀ (ds es : List Dm) (k : Nat), Q.brokenFrom l on ch k (ds ++ es) = Q.brokenFrom l on ch k ds ++ Q.brokenFrom l on ch (k + ds.length) es
  | [], es, k => by simp [Q.brokenFrom]
  | d :: ds, es, k => by
    rw [List.cons_append, Q.brokenFrom, broken_app l on ch ds es (k + 1), Q.brokenFrom, List.append_assoc, List.length_cons, show k + 1 + ds.length = k + (ds.length + 1) by omega]
theorem broken_snoc {l : List Rc} {on ch : List Bool} {ds : List Dm} {k : Nat} {d : Dm} (h : ds[k]? = some d) :
    Q.brokenFrom l on ch 0 (ds.take (k + 1)) = Q.brokenFrom l on ch 0 (ds.take k) ++ (if brk l on ch d then [(k : Int)] else []) := by
  have hk : k < ds.length := (List.getElem?_eq_some_iff.1 h).1
  rw [List.take_add_one, h, show (some d).toList = [d] from rfl, broken_app, Q.brokenFrom, Q.brokenFrom, List.append_nil, List.length_take, Nat.min_eq_left (by omega), Nat.zero_add]
  congr 1
  unfold brk
  by_cases h1 : on.length = l.length <;> by_cases h2 : ch.length = l.length <;> simp [h1, h2]
theorem broken_len (l : List Rc) (on ch : List Bool) : ∀ (ds : List Dm) (k : Nat), (Q.brokenFrom l on ch k ds).length ≤ ds.length
  | [], _ => by simp [Q.brokenFrom]
  | d :: ds, k => by
    rw [Q.brokenFrom, List.length_append, List.length_cons]
    have := broken_len l on ch ds (k + 1)
    split <;> simp <;> omega
theorem Sl.cellsDm {w : World} {a : Option Addr} {xs : List Dm} (h : Sl RDm 6 w a xs) {i : Nat} {d : Dm} (hx : xs[i]? = some d) :
    ∃ b off ra rc, a = some ⟨b, off, none⟩ ∧ b < w.heap.size ∧ (w.cell? ⟨b, off + i * 6, none⟩ = some (.int .i64 d.how) ∧ w.cell? ⟨b, off + i * 6 + 1, none⟩ = some (.string d.spec.chan) ∧ w.cell? ⟨b, off + i * 6 + 2, none⟩ = some (.string d.spec.name) ∧ w.cell? ⟨b, off + i * 6 + 3, none⟩ = some (.slice ra d.spec.rows.length rc) ∧ w.cell? ⟨b, off + i * 6 + 4, none⟩ = some (.string d.spec.build) ∧ w.cell? ⟨b, off + i * 6 + 5, none⟩ = some (.int .i64 d.spec.num)) ∧ SpAt w d.spec ra rc ∧ I64 d.how := by
  obtain ⟨b, off, e, hlt, hc⟩ := h.addr (by have := (List.getElem?_eq_some_iff.1 hx).1; omega)
  obtain ⟨us, u1, u2, vs, u3, u4, u5⟩ := hc i d hx
  obtain ⟨ra, rc, u6, u7⟩ := u5.at
  rw [u3, u6] at u2
  exact ⟨b, off, ra, rc, e, hlt, ⟨by simpa using u2 0 (by omega), by simpa using u2 1 (by omega), by simpa using u2 2 (by omega), by simpa using u2 3 (by omega), by simpa using u2 4 (by omega), by simpa using u2 5 (by omega)⟩, u7, u4⟩
set_option maxHeartbeats 2000000 in
set_option maxRecDepth 100000 in
/-- choices of the right lengths -/
theorem broken_ok (ad : Addr) (a b o da : Option Addr) (c e oc dc : Nat) (l : List Rc) (on ch : List Bool) (ds : List Dm) (w : World) (h1 : on.length = l.length) (h2 : ch.length = l.length) (hR : RIn w a b l ch) (hD : Sl RDm 6 w da ds) (hE : ErrR w ad) :
    Calls Tryz.prog 68 #[.slice a l.length c, .slice o on.length oc, .slice b ch.length e, .slice da ds.length dc] w (NewInts w (Q.brokenFrom l on ch 0 ds)) := by
  have hl1 := hD.len
  have hl3 := hR.recs.len
  have HD := Lib.hid hD
  have HR := Lib.hid hR
  have HE := Lib.hid hE
  have n1 : ((on.length : Int) != (l.length : Int)) = false := by simp [h1]
  have n2 : ((ch.length : Int) != (l.length : Int)) = false := by simp [h2]
  have HL1 := Lib.hid h1
  have HL2 := Lib.hid h2
  clear hD hR hE h1 h2
  go_enter Tryz.func68, Tryz.ntmps68
  go_wp2
  go_loopw [9, 11, 12, 27] (fun s _ _ i wr => ∃ (k : Nat) (pa : Option Addr) (pc : Nat), k ≤ ds.length ∧ i = .int .i64 k ∧ s = .slice pa (Q.brokenFrom l on ch 0 (ds.take k)).length pc ∧ Own 3 1 wr w.heap.size pa pc (Q.brokenFrom l on ch 0 (ds.take k)).length ((Q.brokenFrom l on ch 0 (ds.take k)).map (Value.int .i64)) ∧ Below w.heap.size w wr) (fun _ _ _ i _ => ds.length - (intOf i).toNat)
  case atStart => exact ⟨0, none, 0, Nat.zero_le _, rfl, rfl, Own.nil _ _ _ _, Below.refl _ _⟩
  case round =>
    obtain ⟨k, pa, pc, hk, rfl, rfl, hown, hbr⟩ := hrel
    have HO := Lib.hid hown
    have HB := Lib.hid hbr
    have hbl9 := broken_len l on ch (ds.take k) 0
    rw [List.length_take] at hbl9
    clear hown hbr
    by_cases hlt : k < ds.length
    · obtain ⟨d, hx⟩ : ∃ x, ds[k]? = some x := ⟨ds[k], by simp [hlt]⟩
      obtain ⟨bb, off, ra, rc, rfl, hbl, ⟨t0, t1, t2, t3, t4, t5⟩, hat, hw⟩ := (HD.out.below stays_RDm HB.out).cellsDm hx
      have HX := Lib.hid (broken_snoc (l := l) (on := on) (ch := ch) hx)
      have HA := Lib.hid hat
      have HW := Lib.hid hw
      clear hx hat hw
      go_wp2_with fail
      have hb1 : ∀ o, Below wr.heap.size wr (wr.alloc o) := fun o => (Below.refl _ _).alloc (Nat.le_refl _) o
      (with_reducible refine (holds_any d ra rc ad a b c e l ch _ (HA.out.below (hb1 _)) HW.out ((HR.out.below HB.out).below (hb1 _)) ((HE.out.below HB.out).below (hb1 _))).mono ?_)
      rintro e w2 ⟨rfl, hb⟩
      have HB2 := Lib.hid (fin (fin HB.out (hb1 _)) hb)
      have HO2 := Lib.hid ((HO.out.below (hb1 _)).below hb)
      have hz2 : w.heap.size ≤ w2.heap.size := HB2.out.size
      clear hb hb1
      generalize hs : Q.holds l ch d = v
      have HV := Lib.hid hs
      clear hs
      cases v
      · have hbk : Q.brokenFrom l on ch 0 (ds.take (k + 1)) = Q.brokenFrom l on ch 0 (ds.take k) ++ [(k : Int)] := by
          rw [HX.out]; unfold brk; rw [HV.out]; simp
        have HBK := Lib.hid hbk
        clear hbk
        go_wp2_with (at_builtin; refine wpList_append_flat Tryz.infoInt rfl (by decide) rfl (.tmp 40) (.tmp 42) 31 rfl Tryz.underlying31 w.heap.size _ _ _ _ rfl (HO2.out.below ((Below.refl _ _).alloc (Nat.le_refl _) _)) _ _ _ [.int .i64 k] rfl rfl (RV.one w2 (.int .i64 k) rfl _) (RV.ones _) (fun e => by cases e) (by omega) (by omega) (by simp; omega) ?_; intro a1 c1 w1 cells1 hown1 hF1 hg1 hB1; have HB1 := Lib.hid hB1; have HO1 := Lib.hid hown1; have HF1 := Lib.hid hF1.rv; clear hg1 hown1 hB1 hF1)
        go_roundw
        case rel =>
          refine ⟨k + 1, a1, c1, by omega, by go_num, by rw [HBK.out]; simp, ?_, (HB2.out.alloc HB2.out.size _).trans HB1.out⟩
          have := HO1.out
          rw [HF1.out] at this
          rw [HBK.out]; simpa using this
        case measure => simp [intOf]; omega
      · have hbk : Q.brokenFrom l on ch 0 (ds.take (k + 1)) = Q.brokenFrom l on ch 0 (ds.take k) := by
          rw [HX.out]; unfold brk; rw [HV.out]; simp [HL1.out, HL2.out]
        have HBK := Lib.hid hbk
        clear hbk
        go_wp2
        go_roundw
        case rel => exact ⟨k + 1, pa, pc, by omega, by go_num, by rw [HBK.out], by rw [HBK.out]; exact HO2.out, HB2.out⟩
        case measure => simp [intOf]; omega
    · have hfull : ds.take k = ds := List.take_of_length_le (by omega)
      rw [hfull]
      have HFU := Lib.hid hfull
      clear hfull
      go_wp2
      go_ret
      have ho := HO.out
      rw [HFU.out] at ho
      refine ⟨pa, pc, rfl, Own.sl ho (flat_ints _ _) ?_, HB.out⟩
      have := broken_len l on ch ds 0
      omega
end Go.Proofs.YtnmcajinaigcjaaGreatDoor

/- Contracts of the document's Begins, has, Has. -/
import Derived.Test.YtpminhafljlldaaDoorDVer
namespace Go.Proofs.YtpminhafljlldaaDoor
open Go.RowKit
open Q (It Ver Tm Sp Rc Dm)

set_option maxHeartbeats 2000000 in
set_option maxRecDepth 100000 in
theorem dbegins_any (u v : Ver) (pa la pb lb : Option Addr) (pc lc pd ld : Nat) (w : World) (h1 : Rows2 w pa u.parts) (h3 : Rows2 w pb v.parts) (_hl2 : u.loc.length ≤ 5864062014805) (_hl4 : v.loc.length ≤ 5864062014805) :
    Calls Tryd.prog 117 #[.agg #[.int .i64 u.ep, .slice pa u.parts.length pc, .slice la u.loc.length lc], .agg #[.int .i64 v.ep, .slice pb v.parts.length pd, .slice lb v.loc.length ld]] w fun e w' => e = .returned (.bool (Q.begins u v)) ∧ Below w.heap.size w w' := by
  have hl1 := h1.len
  have hl3 := h3.len
  have H1 := Lib.hid h1
  have H3 := Lib.hid h3
  clear h1 h3
  by_cases hp : v.parts.length = 0
  · have hq : ((v.parts.length : Int) == 0) = true := by simp [hp]
    have HN := Lib.hid (begins_no (u := u) (v := v) (.inr (.inr hp)))
    clear hp
    go_enter Tryd.func117, Tryd.ntmps117
    go_wp2
    go_ret
    exact ⟨ret_bool HN.out.symm, ((Below.refl _ _).alloc (Nat.le_refl _) _).alloc (by simp) _⟩
  have hq : ((v.parts.length : Int) == 0) = false := by rw [beq_eq_false_iff_ne]; omega
  have hp1 : 1 ≤ v.parts.length := by omega
  clear hp
  by_cases hlc : 0 < v.loc.length
  · have HN := Lib.hid (begins_no (u := u) (v := v) (.inr (.inl hlc)))
    go_enter Tryd.func117, Tryd.ntmps117
    go_wp2
    go_ret
    exact ⟨ret_bool HN.out.symm, ((Below.refl _ _).alloc (Nat.le_refl _) _).alloc (by simp) _⟩
  by_cases he : u.ep = v.ep
  case neg =>
    have hd : (u.ep != v.ep) = true := by simpa using he
    have HN := Lib.hid (begins_no (u := u) (v := v) (.inl he))
    clear he
    go_enter Tryd.func117, Tryd.ntmps117
    go_wp2
    go_ret
    exact ⟨ret_bool HN.out.symm, ((Below.refl _ _).alloc (Nat.le_refl _) _).alloc (by simp) _⟩
  have hd : (u.ep != v.ep) = false := by simp [he]
  have HE := Lib.hid he
  clear he
  go_enter Tryd.func117, Tryd.ntmps117
  go_wp2
  generalize hW : (w.alloc _).alloc _ = W
  have h0 : Below w.heap.size w W := by subst hW; exact ((Below.refl _ _).alloc (Nat.le_refl _) _).alloc (by simp) _
  have hs : ∀ w', Below W.heap.size W w' → w'.cell? ⟨w.heap.size, 1, none⟩ = some (.slice pa u.parts.length pc) ∧ w'.cell? ⟨w.heap.size + 1, 1, none⟩ = some (.slice pb v.parts.length pd) := by
    intro w' hb
    have hz : W.heap.size = w.heap.size + 2 := by subst hW; simp
    refine ⟨(hb.cell (by simp; omega)).trans ?_, (hb.cell (by simp; omega)).trans ?_⟩ <;> (subst hW; simp)
  have HS := Lib.hid hs
  have H0 := Lib.hid h0
  have HU := Lib.hid (H1.out.below h0)
  have HV := Lib.hid (H3.out.below h0)
  have hzW : w.heap.size + 1 < W.heap.size := by subst hW; simp
  clear hs h0 hW H1 H3 hd hq
  go_loopw [6] (fun i wr => ∃ k : Nat, k ≤ v.parts.length - 1 ∧ i = .int .i64 k ∧ (∀ j, j < k → (Q.cmpC (Q.at1 u.parts j []) (Q.at1 v.parts j []) == 0) = true) ∧ Below W.heap.size W wr) (fun i _ => v.parts.length - 1 - (intOf i).toNat)
  case atStart => exact ⟨0, Nat.zero_le _, rfl, (fun j hj => by omega), Below.refl _ _⟩
  case round =>
    obtain ⟨k, hk, rfl, hf, hbr⟩ := hrel
    have HF := Lib.hid hf
    have HB := Lib.hid hbr
    obtain ⟨r0, r1⟩ := HS.out _ hbr
    clear hf
    by_cases hlt : k < v.parts.length - 1
    · have hlt1 : (k : Int) < (v.parts.length : Int) - 1 := by omega
      have hlt2 : k < v.parts.length := by omega
      obtain ⟨x, hx⟩ : ∃ x, v.parts[k]? = some x := ⟨v.parts[k], by simp [hlt2]⟩
      obtain ⟨b, off, a', c', rfl, hbl, hcell, ⟨hcl, _⟩, hsl⟩ := (HV.out.below hbr).cell1 hx
      have hbl2 : b < W.heap.size := by obtain ⟨b2, off2, a2, c2, e2, h2, _⟩ := HV.out.cell1 hx; cases e2; exact h2
      have HX := Lib.hid hx
      have HSL := Lib.hid hsl
      have HC0 := Lib.hid ((bcell hbr).1 b (off + k) hbl2 ▸ hcell)
      have HBD := Lib.hid (HB.out.drew)
      clear hx hsl hbr
      go_wp2
      go_region_held3 (fun w' => w'.cell? ⟨w.heap.size, 1, none⟩ = some (.slice pa u.parts.length pc) ∧ w'.cell? ⟨w.heap.size + 1, 1, none⟩ = some (.slice (some ⟨b, off, none⟩) v.parts.length pd) ∧ w'.cell? ⟨b, off + k, none⟩ = some (.slice a' x.length c'))
        (first | exact ⟨r0, r1, hcell⟩ | exact ⟨(HS.out _ hb).1, (HS.out _ hb).2, (hb.cell hbl2).trans HC0.out⟩ | go_keep)
        (first
        | (go_at_call 141; (with_reducible refine (dpart_any pa _ u.parts k _ (HU.out.below HBD.out)).mono ?_); rintro e w2 ⟨a1, c1, rfl, hs1, hb1⟩; have hb : Below W.heap.size W w2 := fin HBD.out hb1; have HS1 := Lib.hid hs1; have HSX := Lib.hid (HSL.out.below stays_RIt (fin ((Below.refl _ _).drew) hb1)); clear hs1 hb1)
        | (go_at_call 140; (with_reducible refine (rel hb (dhold_any _ _ _ _ _ _ _ HS1.out HSX.out)).mono ?_); rintro e w2 ⟨rfl, hb⟩))
      all_goals
        have hpp := (Q.cmpC_part u.parts k x).1
        rw [hpp]
        clear hpp
        go_wp2
        · have ht : (Q.cmpC (Q.at1 u.parts k []) x != 0) = true := by assumption
          go_ret
          exact ⟨ret_bool (begins_miss hlt (by rw [at1_in HX.out]; simpa using ht)).symm, fin H0.out hb⟩
        · have ht : (Q.cmpC (Q.at1 u.parts k []) x != 0) = false := by assumption
          go_roundw
          case rel => exact ⟨k + 1, by omega, by go_num, upto_snoc HF.out (by rw [at1_in HX.out]; simpa using ht), hb⟩
          case measure => simp [intOf]; omega
    · have hge : (v.parts.length : Int) - 1 ≤ (k : Int) := by omega
      have hke : k = v.parts.length - 1 := by omega
      have HK := Lib.hid hke
      have hdd : decide ((k : Int) < (v.parts.length : Int) - 1) = false := by simp; omega
      obtain ⟨x, hx⟩ : ∃ x, v.parts[k]? = some x := ⟨v.parts[k], by simp⟩
      obtain ⟨b, off, a', c', rfl, hbl, hcell, ⟨hcl, _⟩, hsl⟩ := (HV.out.below hbr).cell1 hx
      have hxl := hsl.len
      have hka : (v.parts.length : Int) - 1 = (k : Int) := by omega
      have HX := Lib.hid hx
      have HSL := Lib.hid hsl
      have hzr : w.heap.size + 1 < wr.heap.size := Nat.lt_of_lt_of_le hzW hbr.size
      clear hx hsl hbr hke
      go_wp2_with fail
      (with_reducible refine (dpart_any pa _ u.parts k _ (HU.out.below HB.out)).mono ?_)
      rintro e w2 ⟨a1, c1, rfl, hs1, hb2⟩
      have HS1 := Lib.hid hs1
      have HBx := Lib.hid (fin HB.out hb2)
      have HSX := Lib.hid (HSL.out.below stays_RIt hb2)
      have g1 := (hb2.cell (p := ⟨w.heap.size + 1, 1, none⟩) hzr).trans r1
      have g2 := (hb2.cell (p := ⟨b, off + k, none⟩) hbl).trans hcell
      have hpl : (Q.dpart u.parts k).length ≤ 5864062014805 := hs1.len
      clear hs1 hb2 r0 r1 hcell
      obtain ⟨y, hy⟩ : ∃ y, y = Q.dpart u.parts k := ⟨_, rfl⟩
      rw [← hy] at HS1 hpl ⊢
      have HY := Lib.hid hy
      clear hy
      go_wp2
      obtain ⟨wl, hwl⟩ : ∃ x, x = w2 := ⟨_, rfl⟩
      subst hwl
      clear g1 g2 hka
      go_loopw [8, 9, 10, 58] (fun _ _ _ i wr => ∃ t : Nat, t ≤ x.length ∧ i = .int .i64 t ∧ (∀ j, j < t → (Q.cmpIt (Q.at1 y j Q.zero) (Q.at1 x j Q.zero) == 0) = true) ∧ Below wl.heap.size wl wr) (fun _ _ _ i _ => x.length - (intOf i).toNat)
      case atStart => exact ⟨0, Nat.zero_le _, rfl, (fun j hj => by omega), Below.refl _ _⟩
      case round =>
        obtain ⟨t, ht, rfl, hf, hbr⟩ := hrel
        have HF2 := Lib.hid hf
        have HB2 := Lib.hid hbr
        clear hf
        by_cases htl : t < x.length
        · obtain ⟨z, hz⟩ : ∃ z, x[t]? = some z := ⟨x[t], by simp [htl]⟩
          obtain ⟨b3, off3, rfl, hbl3, hc30, hc31⟩ := (HSX.out.below stays_RIt hbr).cells2 hz
          have HZ := Lib.hid hz
          clear hz hbr
          go_wp2_with fail
          (with_reducible refine (ditem_any a1 _ y t _ (HS1.out.below stays_RIt ?_)).mono ?_)
          case refine_1 => exact fin HB2.out (by first | exact b1 _ _ | exact (b1 _ _).setCell (by simp) _)
          rintro e w3 ⟨rfl, hb3⟩
          have q1 : w3.cell? ⟨wr.heap.size, 0, none⟩ = some (.int .i64 z.n) := (hb3.cell (p := ⟨wr.heap.size, 0, none⟩) (by simp)).trans (by simp)
          have q2 : w3.cell? ⟨wr.heap.size, 1, none⟩ = some (.string z.word) := (hb3.cell (p := ⟨wr.heap.size, 1, none⟩) (by simp)).trans (by simp)
          have hz3 : wr.heap.size < w3.heap.size := Nat.lt_of_lt_of_le (by simp) hb3.size
          have HB3 := Lib.hid (fin (fin HB2.out (by first | exact b1 _ _ | exact (b1 _ _).setCell (by simp) _)) hb3)
          generalize hq : Q.at1 y t Q.zero = q
          have HQ := Lib.hid hq
          clear hq
          go_wp2_with fail
          refine (dless_any z q _).mono ?_
          rintro e w4 ⟨rfl, hb4⟩
          have HB4 := Lib.hid (fin HB3.out (fin (by first | exact b1 _ _ | exact (b1 _ _).setCell (by simp) _) hb4))
          have hqz : Q.cmpIt q z = -Q.cmpIt z q := Q.cmpIt_swap z q
          have HQZ := Lib.hid hqz
          clear hqz
          rcases dcases (x := z) (y := q) with ⟨e1, e2⟩ | ⟨e1, e3, e2⟩ | ⟨e1, e3, e2⟩
          · rw [e1]
            have E2 := Lib.hid e2
            clear e1 e2
            go_wp2
            go_ret
            exact ⟨ret_bool (begins_lastmiss (HK.out ▸ HX.out) (by rw [← HK.out]; exact beginsC_miss htl (by rw [at1_in HZ.out, ← Q.at1_part, ← HY.out, HQ.out, HQZ.out, E2.out]; decide))).symm, fin (fin H0.out HBx.out) HB4.out⟩
          all_goals
            rw [e1]
            have E2 := Lib.hid e2
            have E3 := Lib.hid e3
            clear e1 e2 e3
            have q3 : w4.cell? ⟨wr.heap.size, 0, none⟩ = some (.int .i64 z.n) := (hb4.cell (p := ⟨wr.heap.size, 0, none⟩) (by simp; omega)).trans (cell_old q1 _)
            have q4 : w4.cell? ⟨wr.heap.size, 1, none⟩ = some (.string z.word) := (hb4.cell (p := ⟨wr.heap.size, 1, none⟩) (by simp; omega)).trans (cell_old q2 _)
            have q5 : w4.cell? ⟨w3.heap.size, 0, none⟩ = some (.int .i64 q.n) := (hb4.cell (p := ⟨w3.heap.size, 0, none⟩) (by simp)).trans (by simp)
            have q6 : w4.cell? ⟨w3.heap.size, 1, none⟩ = some (.string q.word) := (hb4.cell (p := ⟨w3.heap.size, 1, none⟩) (by simp)).trans (by simp)
            go_wp2_with fail
            refine (dless_any q z _).mono ?_
            rintro e w5 ⟨rfl, hb5⟩
            have HB5 := Lib.hid (fin HB4.out hb5)
            rw [E3.out]
            clear q3 q4 q5 q6 hb4 hb5 q1 q2 hb3
            go_wp2
          · go_ret
            exact ⟨ret_bool (begins_lastmiss (HK.out ▸ HX.out) (by rw [← HK.out]; exact beginsC_miss htl (by rw [at1_in HZ.out, ← Q.at1_part, ← HY.out, HQ.out, HQZ.out, E2.out]; decide))).symm, fin (fin H0.out HBx.out) HB5.out⟩
          · go_roundw
            case rel => exact ⟨t + 1, by omega, by go_num, upto_snoc HF2.out (by rw [at1_in HZ.out, HQ.out, HQZ.out, E2.out]; rfl), HB5.out⟩
            case measure => simp [intOf]; omega
        · go_wp2
          go_ret
          refine ⟨ret_bool (begins_yes HE.out hlc hp1 (by rw [← HK.out]; exact HF.out) (HK.out ▸ HX.out) (fun j hj => ?_)).symm, fin (fin H0.out HBx.out) HB2.out⟩
          rw [← HK.out, ← Q.at1_part, ← HY.out]
          exact HF2.out j (by omega)
theorem belowN {B : Nat} {a w : World} (h : Below B a w) (n : Nat) : Below B a (w.drewN n) := ⟨h.os, h.tape, h.output, h.size, h.block⟩
theorem dbegins_short (v u : Ver) (pa la a3 : Option Addr) (pc lc c3 : Nat) (w : World) (hv : Rows2 w pa v.parts) (h3 : Rows2 w a3 (u.parts.take (u.parts.length - 1))) (hl2 : v.loc.length ≤ 5864062014805) :
    Calls Tryd.prog 117 #[.agg #[.int .i64 v.ep, .slice pa v.parts.length pc, .slice la v.loc.length lc], .agg #[.int .i64 u.ep, .slice a3 (u.parts.length - 1) c3, .slice none 0 0]] w fun e w' => e = .returned (.bool (Q.begins v (Q.shorter u))) ∧ Below w.heap.size w w' := by
  have h := dbegins_any v (Q.shorter u) pa la a3 none pc lc c3 0 w hv h3 hl2 (by simp [Q.shorter])
  have e : (Q.shorter u).parts.length = u.parts.length - 1 := by simp [Q.shorter]
  rw [e] at h
  exact h
theorem rows2_take {w : World} {a : Option Addr} {xs : List (List It)} (h : Rows2 w a xs) (n : Nat) : Rows2 w a (xs.take n) := by
  refine ⟨fun h0 => ?_, Nat.le_trans (by simp; omega) h.len⟩
  obtain ⟨b, off, e, hlt, hc⟩ := h.addr (by rw [List.length_take] at h0; omega)
  refine ⟨b, off, e, hlt, fun i x hx => hc i x ?_⟩
  rw [List.getElem?_take] at hx
  split at hx
  · exact hx
  · cases hx
set_option maxHeartbeats 1000000 in
set_option maxRecDepth 100000 in
theorem dsat_any (t : Tm) (v : Ver) (pa la pb lb : Option Addr) (pc lc pd ld : Nat) (w : World) (hv : VerAt w v pa la pc lc) (ht : VerAt w t.ver pb lb pd ld) :
    Calls Tryd.prog 94 #[.agg #[.string t.op, .int .i64 t.ver.ep, .slice pb t.ver.parts.length pd, .slice lb t.ver.loc.length ld], .agg #[.int .i64 v.ep, .slice pa v.parts.length pc, .slice la v.loc.length lc]] w fun e w' => e = .returned (.bool (Q.sat t v)) ∧ Below w.heap.size w w' := by
  have HV := Lib.hid hv
  have HT := Lib.hid ht
  have hl1 := hv.parts.len
  have hl2 := hv.loc.len
  have hl3 := ht.parts.len
  have hl4 := ht.loc.len
  have hpd := ht.pcap
  clear hv ht
  generalize hr : Q.sat t v = r
  have HR := Lib.hid hr
  clear hr
  go_enter Tryd.func94, Tryd.ntmps94
  go_wp2_with fail
  generalize hW : (w.alloc _).alloc _ = W
  have h0 : Below w.heap.size w W := by subst hW; exact ((Below.refl _ _).alloc (Nat.le_refl _) _).alloc (by simp) _
  have hs : ∀ w', Below W.heap.size W w' → (w'.cell? ⟨w.heap.size, 0, none⟩ = some (.string t.op) ∧ w'.cell? ⟨w.heap.size, 1, none⟩ = some (.int .i64 t.ver.ep) ∧ w'.cell? ⟨w.heap.size, 2, none⟩ = some (.slice pb t.ver.parts.length pd) ∧ w'.cell? ⟨w.heap.size, 3, none⟩ = some (.slice lb t.ver.loc.length ld)) ∧
      (w'.cell? ⟨w.heap.size + 1, 0, none⟩ = some (.int .i64 v.ep) ∧ w'.cell? ⟨w.heap.size + 1, 1, none⟩ = some (.slice pa v.parts.length pc) ∧ w'.cell? ⟨w.heap.size + 1, 2, none⟩ = some (.slice la v.loc.length lc)) := by
    intro w' hb
    have hz : W.heap.size = w.heap.size + 2 := by subst hW; simp
    refine ⟨⟨(hb.cell (by simp; omega)).trans ?_, (hb.cell (by simp; omega)).trans ?_, (hb.cell (by simp; omega)).trans ?_, (hb.cell (by simp; omega)).trans ?_⟩, (hb.cell (by simp; omega)).trans ?_, (hb.cell (by simp; omega)).trans ?_, (hb.cell (by simp; omega)).trans ?_⟩ <;> (subst hW; simp)
  have hzW : w.heap.size + 1 < W.heap.size := by subst hW; simp
  have HS := Lib.hid hs
  have H0 := Lib.hid h0
  clear hs h0 hW
  refine (dcmpV_any v t.ver _ _ _ _ _ _ _ _ _ (HV.out.below H0.out).parts (HV.out.below H0.out).loc (HT.out.below H0.out).parts (HT.out.below H0.out).loc).mono ?_
  rintro e w2 ⟨rfl, hb2⟩
  obtain ⟨⟨q0, q1, q2, q3⟩, q4, q5, q6⟩ := HS.out _ hb2
  have hz2 : w.heap.size + 1 < w2.heap.size := Nat.lt_of_lt_of_le hzW hb2.size
  have HB2 := Lib.hid hb2
  clear hb2
  go_wp2_with fail
  rotate_left 7
  · refine (dbegins_any v t.ver _ _ _ _ _ _ _ _ _ (HV.out.below (fin H0.out HB2.out)).parts (HT.out.below (fin H0.out HB2.out)).parts hl2 hl4).mono ?_
    rintro e w3 ⟨rfl, hb3⟩
    go_wp2
    go_ret
    exact ⟨ret_bool (by rw [← HR.out]; unfold Q.sat; simp_all), fin (fin H0.out HB2.out) hb3⟩
  · by_cases hp : 2 ≤ t.ver.parts.length
    · have p2 : decide ((2 : Int) ≤ (t.ver.parts.length : Int)) = true := by simp; omega
      by_cases hc0 : 0 ≤ Q.cmpV v t.ver
      · have c2 : decide ((0 : Int) ≤ Q.cmpV v t.ver) = true := by simpa using hc0
        have hi1 : IntKind.i64.wrap ((t.ver.parts.length : Int) - 1) = (t.ver.parts.length : Int) - 1 := IntWalk.i64_in _ (by omega)
        have hi2 : (0 : Int) ≤ (t.ver.parts.length : Int) - 1 := by omega
        have hi3 : (t.ver.parts.length : Int) - 1 ≤ (pd : Int) := by omega
        have hi4 : ((t.ver.parts.length : Int) - 1).toNat = t.ver.parts.length - 1 := by omega
        have hi5 : (1 : Int) ≤ (t.ver.parts.length : Int) := by omega
        have hi6 : (t.ver.parts.length : Int) ≤ (pd : Int) + 1 := by omega
        have hi7 : 1 ≤ t.ver.parts.length := by omega
        have hi8 : t.ver.parts.length ≤ pd + 1 := by omega
        have HBD := Lib.hid (HB2.out.drew)
        go_region_held3 (fun w' => w'.cell? ⟨w.heap.size, 1, none⟩ = some (.int .i64 t.ver.ep) ∧ w'.cell? ⟨w.heap.size, 2, none⟩ = some (.slice pb t.ver.parts.length pd) ∧ w'.cell? ⟨w.heap.size + 1, 0, none⟩ = some (.int .i64 v.ep) ∧ w'.cell? ⟨w.heap.size + 1, 1, none⟩ = some (.slice pa v.parts.length pc) ∧ w'.cell? ⟨w.heap.size + 1, 2, none⟩ = some (.slice la v.loc.length lc))
          (first | exact ⟨q1, q2, q4, q5, q6⟩ | exact ⟨(HS.out _ hb).1.2.1, (HS.out _ hb).1.2.2.1, (HS.out _ hb).2.1, (HS.out _ hb).2.2.1, (HS.out _ hb).2.2.2⟩ | go_keep)
          (first
          | (go_at_call 117; (refine (dbegins_short v t.ver pa la pb pc lc pd _ (HV.out.below (fin H0.out HBD.out)).parts (rows2_take (HT.out.below (fin H0.out HBD.out)).parts _) hl2).mono ?_); rintro e w3 ⟨rfl, hb3⟩; have hb : Below W.heap.size W w3 := fin HBD.out hb3; clear hb3))
        go_wp2
        go_ret
        refine ⟨ret_bool ?_, fin H0.out hb⟩
        clear hi1 hi4
        rw [← HR.out]
        unfold Q.sat
        simp_all
      · have c2 : decide ((0 : Int) ≤ Q.cmpV v t.ver) = false := by simpa using hc0
        go_quiet (fail)
        go_wp2
        go_ret
        refine ⟨ret_bool ?_, belowN (fin H0.out HB2.out) _⟩
        rw [← HR.out]
        unfold Q.sat
        simp_all
        intro hx; omega
    · have p2 : decide ((2 : Int) ≤ (t.ver.parts.length : Int)) = false := by simp; omega
      go_quiet (fail)
      go_wp2
      go_ret
      refine ⟨ret_bool ?_, belowN (fin H0.out HB2.out) _⟩
      rw [← HR.out]
      unfold Q.sat
      simp_all
      intro hx; omega
  all_goals
    go_ret
    refine ⟨ret_bool ?_, fin H0.out HB2.out⟩
    rw [← HR.out]
    unfold Q.sat
    simp_all
theorem allB_snoc {α : Type} {p : α → Bool} {l : List α} {k : Nat} {x : α} (h : l[k]? = some x) : (l.take (k + 1)).all p = ((l.take k).all p && p x) := by
  rw [List.take_add_one, h, List.all_append]; simp
set_option maxHeartbeats 2000000 in
set_option maxRecDepth 100000 in
theorem dhas8_any (rows : List (List Tm)) (a : Option Addr) (c : Nat) (v : Ver) (pa la : Option Addr) (pc lc : Nat) (w : World) (hz : Sl (RS RTm 4) 1 w a rows) (hv : VerAt w v pa la pc lc) :
    Calls Tryd.prog 76 #[.agg #[.slice a rows.length c], .agg #[.int .i64 v.ep, .slice pa v.parts.length pc, .slice la v.loc.length lc]] w fun e w' => e = .returned (.bool (Q.has rows v)) ∧ Below w.heap.size w w' := by
  have HZ := Lib.hid hz
  have HV := Lib.hid hv
  have hl1 := hz.len
  clear hz hv
  generalize hr : Q.has rows v = r
  have HR := Lib.hid hr
  clear hr
  go_enter Tryd.func76, Tryd.ntmps76
  go_wp2
  generalize hW : (w.alloc _).alloc _ = W
  have h0 : Below w.heap.size w W := by subst hW; exact (b1 _ _).alloc (by simp) _
  have hs : ∀ w', Below W.heap.size W w' → w'.cell? ⟨w.heap.size + 1, 0, none⟩ = some (.int .i64 v.ep) ∧ w'.cell? ⟨w.heap.size + 1, 1, none⟩ = some (.slice pa v.parts.length pc) ∧ w'.cell? ⟨w.heap.size + 1, 2, none⟩ = some (.slice la v.loc.length lc) := by
    intro w' hb
    have hz : W.heap.size = w.heap.size + 2 := by subst hW; simp
    refine ⟨(hb.cell (by simp; omega)).trans ?_, (hb.cell (by simp; omega)).trans ?_, (hb.cell (by simp; omega)).trans ?_⟩ <;> (subst hW; simp)
  have HS := Lib.hid hs
  have H0 := Lib.hid h0
  clear hs h0 hW
  go_loopw [6, 7, 9, 13] (fun _ _ _ i wr => ∃ k : Nat, k ≤ rows.length ∧ i = .int .i64 k ∧ (rows.take k).any (fun row => row.all fun t => Q.sat t v) = false ∧ Below W.heap.size W wr) (fun _ _ _ i _ => rows.length - (intOf i).toNat)
  case atStart => exact ⟨0, by omega, rfl, rfl, Below.refl _ _⟩
  case round =>
    obtain ⟨k, hk, rfl, hf, hbr⟩ := hrel
    have HF := Lib.hid hf
    have HB := Lib.hid hbr
    clear hf hbr
    by_cases hlt : k < rows.length
    · obtain ⟨x, hx⟩ : ∃ x, rows[k]? = some x := ⟨rows[k], by simp [hlt]⟩
      obtain ⟨b, off, a', c', rfl, hbl, c0, hsx⟩ := (HZ.out.below (stays_RS stays_RTm) (fin H0.out HB.out)).cellRow hx
      have hxlen := hsx.len
      have HSX := Lib.hid hsx
      have HX := Lib.hid hx
      clear hx hsx
      obtain ⟨wp, rfl⟩ : ∃ wo : World, wo = wr := ⟨_, rfl⟩
      go_wp2
      clear c0
      go_loopw [7, 9, 19] (fun s _ i wr => ∃ m : Nat, m ≤ x.length ∧ i = .int .i64 m ∧ s = .bool ((x.take m).all fun t => Q.sat t v) ∧ Below wp.heap.size wp wr) (fun _ _ i _ => x.length - (intOf i).toNat)
      case atStart => exact ⟨0, by omega, rfl, rfl, Below.refl _ _⟩
      case round =>
        obtain ⟨m, hm, rfl, rfl, hbr⟩ := hrel
        have HB3 := Lib.hid hbr
        clear hbr
        generalize hacc : ((x.take m).all fun t => Q.sat t v) = acc
        have HA := Lib.hid hacc
        clear hacc
        by_cases hlt3 : m < x.length
        · obtain ⟨y, hy⟩ : ∃ y, x[m]? = some y := ⟨x[m], by simp [hlt3]⟩
          obtain ⟨b3, off3, pb, lb, pd, ld, rfl, hbl3, y0, y1, y2, y3, hva⟩ := (HSX.out.below stays_RTm HB3.out).cells4 hy
          have HVA := Lib.hid hva
          have HY := Lib.hid (allB_snoc (p := fun t => Q.sat t v) hy)
          clear hy hva
          cases acc
          · go_wp2
            go_roundw
            case rel => exact ⟨m + 1, by omega, by go_num, by rw [HY.out, HA.out]; rfl, HB3.out.alloc HB3.out.size _⟩
            case measure => simp [intOf]; omega
          · obtain ⟨k0, k1, k2⟩ := HS.out _ (fin HB.out HB3.out)
            have hzr : w.heap.size + 1 < wr.heap.size := cell_lt k0
            go_wp2_with fail
            (with_reducible refine (dsat_any y v pa la pb lb pc lc pd ld _ ((HV.out.below (fin H0.out (fin HB.out HB3.out))).below (b1 _ _)) (HVA.out.below (b1 _ _))).mono ?_)
            rintro e w2 ⟨rfl, hb⟩
            have HB4 := Lib.hid (fin (HB3.out.alloc HB3.out.size _) hb)
            clear hb k0 k1 k2
            go_wp2
            go_roundw
            case rel => exact ⟨m + 1, by omega, by go_num, by rw [HY.out, HA.out]; simp, HB4.out⟩
            case measure => simp [intOf]; omega
        · have hfull : x.take m = x := List.take_of_length_le (by omega)
          rw [hfull] at HA
          clear hfull
          cases acc
          · go_wp2
            go_roundw
            case rel => exact ⟨k + 1, by omega, by go_num, any_snoc HX.out HF.out HA.out, fin HB.out HB3.out⟩
            case measure => simp [intOf]; omega
          · go_wp2
            go_ret
            exact ⟨ret_bool (by rw [← HR.out]; unfold Q.has; rw [any_hit HX.out HA.out]), fin H0.out (fin HB.out HB3.out)⟩
    · go_wp2
      go_ret
      have hff := HF.out
      rw [List.take_of_length_le (by omega)] at hff
      exact ⟨ret_bool (by rw [← HR.out]; unfold Q.has; rw [hff]), fin H0.out HB.out⟩
end Go.Proofs.YtpminhafljlldaaDoor

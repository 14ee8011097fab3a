/- The law RulesParts, walked. -/
import Derived.Test.YtpminhafljlldaaDoorQAll
import Derived.Test.YtpminhafljlldaaDoorQLawMath
import Derived.Test.YtpminhafljlldaaDoorQFix
import Derived.IntWalk
import Derived.Deep.RegionHeld3
import Derived.Deep.DeepCutAuto
import Derived.Laws.OwnMore
namespace Go.Proofs.YtpminhafljlldaaDoor
open Go.RowKit
open Q (It Ver Tm Sp Rc Dm)

/-- a demand in a box -/
structure DmBox (w : World) (B : Nat) (d : Dm) (ra : Option Addr) (rc : Nat) : Prop where
  lt : B < w.heap.size
  c0 : w.cell? ⟨B, 0, none⟩ = some (.int .i64 d.how)
  c1 : w.cell? ⟨B, 1, none⟩ = some (.string d.spec.chan)
  c2 : w.cell? ⟨B, 2, none⟩ = some (.string d.spec.name)
  c3 : w.cell? ⟨B, 3, none⟩ = some (.slice ra d.spec.rows.length rc)
  c4 : w.cell? ⟨B, 4, none⟩ = some (.string d.spec.build)
  c5 : w.cell? ⟨B, 5, none⟩ = some (.int .i64 d.spec.num)
theorem DmBox.below {w w' : World} {B : Nat} {d : Dm} {ra : Option Addr} {rc : Nat} (h : DmBox w B d ra rc) (hb : Below w.heap.size w w') : DmBox w' B d ra rc :=
  ⟨Nat.lt_of_lt_of_le h.lt hb.size, (hb.cell (p := ⟨B, 0, none⟩) h.lt).trans h.c0, (hb.cell (p := ⟨B, 1, none⟩) h.lt).trans h.c1, (hb.cell (p := ⟨B, 2, none⟩) h.lt).trans h.c2, (hb.cell (p := ⟨B, 3, none⟩) h.lt).trans h.c3, (hb.cell (p := ⟨B, 4, none⟩) h.lt).trans h.c4, (hb.cell (p := ⟨B, 5, none⟩) h.lt).trans h.c5⟩
theorem made_bools_run (w : World) (n : Nat) (hn : n ≤ 1000) : ∃ w', (Instr.makeSlice 23 (.int .i64 (n : Int)) (.int .i64 (n : Int))).run Tryd.prog w = .ok (.slice (some ⟨w.heap.size, 0, none⟩) n n) w' ∧ Bools w' (some ⟨w.heap.size, 0, none⟩) (List.replicate n false) ∧ Below w.heap.size w w' := by
  obtain ⟨i0, hi, hz0, hz1, hz2⟩ := info_parts Tryd.infoBool
  obtain ⟨w', h1, h2, h3⟩ := run_make_full (P := Tryd.prog) (w := w) w.heap.size 23 4 i0 (.bool false) 1 Tryd.underlying23 hi hz0 hz1 .i64 .i64 n (by rw [hz2]; omega) (by unfold maxLen; omega) (Nat.le_refl _)
  refine ⟨w', h1, ?_, ⟨h3.os, h3.tape, h3.output, h3.size, fun k hk => h3.block k hk (by simp)⟩⟩
  rw [made_bools] at h2
  have h4 : OwnB w' w.heap.size (some ⟨w.heap.size, 0, none⟩) n (List.replicate n false) := by unfold OwnB; rw [List.length_replicate]; exact h2
  exact h4.bools (by simp; omega)
theorem Tryd.infoDm : (Tryd.prog.info? 37).map (fun i => (i.zero, i.size, i.bytes)) = some (some (.agg #[.int .i64 0, .string ⟨#[]⟩, .string ⟨#[]⟩, .slice none 0 0, .string ⟨#[]⟩, .int .i64 0]), 6, 88) := by kernel_rfl
theorem ones_RDm {w0 w : World} : ∀ us x, fixR RDm w0 w us x → ∀ u ∈ us, u.oneCell' = true := fun us x h u hu => by
  obtain ⟨vs, h0, _, ⟨r, h1, _, _, _, _, ⟨a, c, h2, _⟩⟩⟩ := h
  simp at h2; subst h2
  rw [h0, h1] at hu
  simp at hu
  rcases hu with rfl | rfl | rfl | rfl | rfl | rfl <;> rfl
/-- a new list that reads as a row of bools -/
def ChosenAs (w : World) (m : List Bool) (e : Ending) (w' : World) : Prop := ∃ ca cc, e = .returned (.slice ca m.length cc) ∧ Bools w' ca m ∧ Below w.heap.size w w'
theorem chosenL_self (m : List Bool) : Q.chosenL m m.length = m := by unfold Q.chosenL; simp
theorem needs_snoc {ds : List Dm} {k : Nat} {d : Dm} (h : ds[k]? = some d) : Q.needs (ds.take (k + 1)) = (Q.needs (ds.take k) || (decide (d.how ≠ 2) && decide (d.how ≠ 3))) := by
  unfold Q.needs; rw [List.take_add_one, h, List.any_append]; simp
set_option maxHeartbeats 8000000 in
set_option maxRecDepth 100000 in
theorem partsLaw (ad : Addr) (a o b da ra : Option Addr) (c oc e dc rc : Nat) (l : List Rc) (on ch : List Bool) (ds : List Dm) (d : Dm) (w : World) (hC : Cho w a o b da c oc e dc l on ch ds) (hd : SpAt w d.spec ra rc) (hdr : RDm w [.int .i64 d.how, .string d.spec.chan, .string d.spec.name, .slice ra d.spec.rows.length rc, .string d.spec.build, .int .i64 d.spec.num] d) (hi : I64 d.how) (hE : ErrR w ad) :
    Calls Tryd.prog 4 #[.agg #[.slice a l.length c, .slice o on.length oc, .slice b ch.length e, .slice da ds.length dc], .agg #[.int .i64 d.how, .string d.spec.chan, .string d.spec.name, .slice ra d.spec.rows.length rc, .string d.spec.build, .int .i64 d.spec.num]] w fun e w' => e = .returned (.bool true) ∧ Below w.heap.size w w' := by
  have HC := Lib.hid hC
  have HD := Lib.hid hd
  have HR := Lib.hid hdr
  have HI := Lib.hid hi
  have HE := Lib.hid hE
  have hl1 := hC.recs.len
  have hl2 := hC.ons.len
  have hl3 := hC.chs.len
  have hl4 := hC.dms.len
  clear hC hE hd hdr hi
  have hb2 : ∀ o o', Below w.heap.size w ((w.alloc o).alloc o') := fun o o' => (b1 _ _).alloc (by simp) o'
  have HB2 := Lib.hid hb2
  clear hb2
  have hX : ChBox ((w.alloc (Obj.cells #[.slice a l.length c, .slice o on.length oc, .slice b ch.length e, .slice da ds.length dc] 26)).alloc (Obj.cells #[.int .i64 d.how, .string d.spec.chan, .string d.spec.name, .slice ra d.spec.rows.length rc, .string d.spec.build, .int .i64 d.spec.num] 37)) w.heap.size a o b da c oc e dc l on ch ds := ⟨by simp; omega, by simp, by simp, by simp, by simp⟩
  have hY : DmBox ((w.alloc (Obj.cells #[.slice a l.length c, .slice o on.length oc, .slice b ch.length e, .slice da ds.length dc] 26)).alloc (Obj.cells #[.int .i64 d.how, .string d.spec.chan, .string d.spec.name, .slice ra d.spec.rows.length rc, .string d.spec.build, .int .i64 d.spec.num] 37)) (w.heap.size + 1) d ra rc := ⟨by simp, by simp, by simp, by simp, by simp, by simp, by simp⟩
  have HX := Lib.hid hX
  have HY := Lib.hid hY
  clear hX hY
  go_enter Tryd.func4, Tryd.ntmps4
  go_wp2_with fail
  refine (alive19 ad _ (HE.out.below (HB2.out _ _))).mono ?_
  rintro e w1 ⟨rfl, hb⟩
  have HXa := Lib.hid (HX.out.below hb)
  have HYa := Lib.hid (HY.out.below hb)
  have HBa := Lib.hid (fin (HB2.out _ _) hb)
  clear hb HX HY HB2
  obtain ⟨za, a0, a1, a2, a3⟩ := HXa.out
  obtain ⟨ya, a4, a5, a6, a7, a8, a9⟩ := HYa.out
  go_wp2_with fail
  (with_reducible refine (bigAll_any a c l 40 _ (HC.out.below HBa.out).recs (by omega)).mono ?_)
  rintro e w2 ⟨q, rfl, hq, hb⟩
  have HXb := Lib.hid (HXa.out.below hb)
  have HYb := Lib.hid (HYa.out.below hb)
  have HBb := Lib.hid (fin HBa.out hb)
  clear hb a0 a1 a2 a3 a4 a5 a6 a7 a8 a9
  obtain ⟨zb, b0, b1, b2, b3⟩ := HXb.out
  obtain ⟨yb, b4, b5, b6, b7, b8, b9⟩ := HYb.out
  cases q
  case true =>
    go_wp2
    go_ret
    exact ⟨rfl, HBb.out⟩
  have h40 := hq rfl
  clear hq
  by_cases h1 : on.length = l.length
  case neg =>
    have n1 : ((on.length : Int) != (l.length : Int)) = true := by rw [bne_iff_ne]; omega
    go_wp2
    go_ret
    exact ⟨rfl, HBb.out⟩
  have n1 : ((on.length : Int) != (l.length : Int)) = false := by simp [h1]
  have HL1 := Lib.hid h1
  clear h1
  by_cases h2 : ch.length = l.length
  case neg =>
    have n2 : ((ch.length : Int) != (l.length : Int)) = true := by rw [bne_iff_ne]; omega
    go_wp2
    go_ret
    exact ⟨rfl, HBb.out⟩
  have n2 : ((ch.length : Int) != (l.length : Int)) = false := by simp [h2]
  have HL2 := Lib.hid h2
  clear h2
  go_wp2_with fail
  (with_reducible refine (bigD_len da dc ds _ (HC.out.below HBb.out).dms).mono ?_)
  rintro e w3 ⟨q, rfl, hq, hb⟩
  have HXc := Lib.hid (HXb.out.below hb)
  have HYc := Lib.hid (HYb.out.below hb)
  have HBc := Lib.hid (fin HBb.out hb)
  clear hb b0 b1 b2 b3 b4 b5 b6 b7 b8 b9
  obtain ⟨zc, c0, c1, c2, c3⟩ := HXc.out
  obtain ⟨yc, c4, c5, c6, c7, c8, c9⟩ := HYc.out
  cases q
  case true =>
    go_wp2
    go_ret
    exact ⟨rfl, HBc.out⟩
  have hd12 := hq rfl
  clear hq
  go_wp2_with fail
  (with_reducible refine (big09_any d.spec ra rc _ (HD.out.below HBc.out)).mono ?_)
  rintro e w4 ⟨q, rfl, hb⟩
  have HXd := Lib.hid (HXc.out.below hb)
  have HYd := Lib.hid (HYc.out.below hb)
  have HBd := Lib.hid (fin HBc.out hb)
  clear hb c0 c1 c2 c3 c4 c5 c6 c7 c8 c9
  obtain ⟨zd, d0, d1, d2, d3⟩ := HXd.out
  obtain ⟨yd, d4, d5, d6, d7, d8, d9⟩ := HYd.out
  cases q
  case true =>
    go_wp2
    go_ret
    exact ⟨rfl, HBd.out⟩
  go_wp2
  clear n1 n2 d0 d1 d2 d3 d4 d5 d6 d7 d8 d9
  go_loopw [5, 7, 46] (fun s _ i wr => ∃ k : Nat, k ≤ ds.length ∧ i = .int .i64 k ∧ s = .bool (Q.needs (ds.take k)) ∧ Below w4.heap.size w4 wr) (fun _ _ i _ => ds.length - (intOf i).toNat)
  case atStart => exact ⟨0, by omega, rfl, rfl, Below.refl _ _⟩
  case round =>
    obtain ⟨k, hk, rfl, rfl, hbr⟩ := hrel
    have HB := Lib.hid hbr
    clear hbr
    by_cases hlt : k < ds.length
    · obtain ⟨x, hx⟩ : ∃ x, ds[k]? = some x := ⟨ds[k], by simp [hlt]⟩
      obtain ⟨bb, off, rb, rd, rfl, hbl, ⟨t0, t1, t2, t3, t4, t5⟩, hat, hw⟩ := ((HC.out.below HBd.out).dms.below stays_RDm HB.out).cellsDm hx
      have HN := Lib.hid (needs_snoc hx)
      clear hx hat hw
      generalize hnn : Q.needs (ds.take k) = nn
      have HNN := Lib.hid hnn
      clear hnn
      cases nn
      case true =>
        go_wp2
        go_roundw
        case rel => exact ⟨k + 1, by omega, by go_num, (by rw [HN.out, HNN.out]; rfl), HB.out.alloc HB.out.size _⟩
        case measure => simp [intOf]; omega
      case false =>
        by_cases e2 : x.how = 2
        · have f2 : (x.how != 2) = false := by simp [e2]
          have E2 := Lib.hid e2
          clear e2
          go_wp2
          go_roundw
          case rel => exact ⟨k + 1, by omega, by go_num, (by rw [HN.out, HNN.out, E2.out]; rfl), HB.out.alloc HB.out.size _⟩
          case measure => simp [intOf]; omega
        · have f2 : (x.how != 2) = true := by simpa using e2
          by_cases e3 : x.how = 3
          · have f3 : (x.how != 3) = false := by simp [e3]
            have E3 := Lib.hid e3
            clear e3 e2
            go_wp2
            go_roundw
            case rel => exact ⟨k + 1, by omega, by go_num, (by rw [HN.out, HNN.out, E3.out]; rfl), HB.out.alloc HB.out.size _⟩
            case measure => simp [intOf]; omega
          · have f3 : (x.how != 3) = true := by simpa using e3
            have E2 := Lib.hid e2
            have E3 := Lib.hid e3
            clear e3 e2
            go_wp2
            go_roundw
            case rel => exact ⟨k + 1, by omega, by go_num, (by rw [HN.out, HNN.out, decide_eq_true E2.out, decide_eq_true E3.out]; rfl), HB.out.alloc HB.out.size _⟩
            case measure => simp [intOf]; omega
    · have hke : ds.take k = ds := List.take_of_length_le (by omega)
      rw [hke]
      clear hke
      have HXe := Lib.hid (HXd.out.below HB.out)
      have HYe := Lib.hid (HYd.out.below HB.out)
      have HBe := Lib.hid (fin HBd.out HB.out)
      obtain ⟨ze, e0, e1, e2, e3⟩ := HXe.out
      obtain ⟨ye, e4, e5, e6, e7, e8, e9⟩ := HYe.out
      generalize hnn : Q.needs ds = nn
      have HNN := Lib.hid hnn
      clear hnn
      have hve := Q.valid_none (ds := ds) HL1.out
      rw [HNN.out] at hve
      have HVE := Lib.hid hve
      clear hve
      go_upto_region 11 with fail
      obtain ⟨w5, hrun, hB5, hb5⟩ := made_bools_run wr.drew l.length (by omega)
      have HB5 := Lib.hid hB5
      have hbb : Below wr.heap.size wr w5 := ((Below.refl wr.heap.size wr).drew).trans hb5
      have HBB := Lib.hid hbb
      have hS : ∀ w', Below wr.heap.size wr w' → (fun w' => w'.cell? ⟨w.heap.size, 0, none⟩ = some (.slice a l.length c) ∧ w'.cell? ⟨w.heap.size, 1, none⟩ = some (.slice o on.length oc) ∧ w'.cell? ⟨w.heap.size, 2, none⟩ = some (.slice b ch.length e) ∧ w'.cell? ⟨w.heap.size, 3, none⟩ = some (.slice da ds.length dc) ∧ w'.cell? ⟨w.heap.size + 1, 0, none⟩ = some (.int .i64 d.how) ∧ w'.cell? ⟨w.heap.size + 1, 1, none⟩ = some (.string d.spec.chan) ∧ w'.cell? ⟨w.heap.size + 1, 2, none⟩ = some (.string d.spec.name) ∧ w'.cell? ⟨w.heap.size + 1, 3, none⟩ = some (.slice ra d.spec.rows.length rc) ∧ w'.cell? ⟨w.heap.size + 1, 4, none⟩ = some (.string d.spec.build) ∧ w'.cell? ⟨w.heap.size + 1, 5, none⟩ = some (.int .i64 d.spec.num)) w' := fun w' hb => by
        obtain ⟨_, f0, f1, f2, f3⟩ := HXe.out.below hb
        obtain ⟨_, f4, f5, f6, f7, f8, f9⟩ := HYe.out.below hb
        exact ⟨f0, f1, f2, f3, f4, f5, f6, f7, f8, f9⟩
      have HSS := Lib.hid hS
      have hv5 := valid_any ad a (some ⟨wr.heap.size, 0, none⟩) o da c l.length oc dc l on (List.replicate l.length false) ds w5 ⟨(HC.out.below (fin HBe.out HBB.out)).recs, HB5.out⟩ (HC.out.below (fin HBe.out HBB.out)).ons (HC.out.below (fin HBe.out HBB.out)).dms (HE.out.below (fin HBe.out HBB.out))
      rw [HVE.out, List.length_replicate] at hv5
      have HV5 := Lib.hid hv5
      clear hB5 hb5 hbb hS hv5
      go_cut [74] (fun s74 wx => s74 = .bool false ∧ Below wr.heap.size wr wx)
      case first =>
        cases nn
        all_goals
          go_region_held3 (fun w' => w'.cell? ⟨w.heap.size, 0, none⟩ = some (.slice a l.length c) ∧ w'.cell? ⟨w.heap.size, 1, none⟩ = some (.slice o on.length oc) ∧ w'.cell? ⟨w.heap.size, 2, none⟩ = some (.slice b ch.length e) ∧ w'.cell? ⟨w.heap.size, 3, none⟩ = some (.slice da ds.length dc) ∧ w'.cell? ⟨w.heap.size + 1, 0, none⟩ = some (.int .i64 d.how) ∧ w'.cell? ⟨w.heap.size + 1, 1, none⟩ = some (.string d.spec.chan) ∧ w'.cell? ⟨w.heap.size + 1, 2, none⟩ = some (.string d.spec.name) ∧ w'.cell? ⟨w.heap.size + 1, 3, none⟩ = some (.slice ra d.spec.rows.length rc) ∧ w'.cell? ⟨w.heap.size + 1, 4, none⟩ = some (.string d.spec.build) ∧ w'.cell? ⟨w.heap.size + 1, 5, none⟩ = some (.int .i64 d.spec.num))
            (first | exact HSS.out _ (Below.refl _ _) | exact HSS.out _ ((Below.refl _ _).drew) | exact HSS.out _ HBB.out | exact HSS.out _ (fin HBB.out hb) | go_keep)
            (first
            | (go_at_call 14; (with_reducible refine HV5.out.mono ?_); rintro e w6 ⟨rfl, hb⟩)
            | fail)
          go_wp2_with fail
          go_meet
          exact ⟨rfl, fin HBB.out hb⟩
      case rest =>
        obtain ⟨rfl, hb⟩ := hcut
        obtain ⟨w6, rfl⟩ : ∃ w6 : World, w6 = wc := ⟨_, rfl⟩
        have HBf := Lib.hid (fin HBe.out hb)
        have HXf := Lib.hid (HXe.out.below hb)
        have HYf := Lib.hid (HYe.out.below hb)
        clear hb hrun e0 e1 e2 e3 e4 e5 e6 e7 e8 e9
        obtain ⟨zf, f0, f1, f2, f3⟩ := HXf.out
        obtain ⟨yf, f4, f5, f6, f7, f8, f9⟩ := HYf.out
        go_upto_region 13 with fail
        have hS6 : ∀ w', Below w6.heap.size w6 w' → (fun w' => w'.cell? ⟨w.heap.size, 0, none⟩ = some (.slice a l.length c) ∧ w'.cell? ⟨w.heap.size, 1, none⟩ = some (.slice o on.length oc) ∧ w'.cell? ⟨w.heap.size, 2, none⟩ = some (.slice b ch.length e) ∧ w'.cell? ⟨w.heap.size, 3, none⟩ = some (.slice da ds.length dc) ∧ w'.cell? ⟨w.heap.size + 1, 0, none⟩ = some (.int .i64 d.how) ∧ w'.cell? ⟨w.heap.size + 1, 1, none⟩ = some (.string d.spec.chan) ∧ w'.cell? ⟨w.heap.size + 1, 2, none⟩ = some (.string d.spec.name) ∧ w'.cell? ⟨w.heap.size + 1, 3, none⟩ = some (.slice ra d.spec.rows.length rc) ∧ w'.cell? ⟨w.heap.size + 1, 4, none⟩ = some (.string d.spec.build) ∧ w'.cell? ⟨w.heap.size + 1, 5, none⟩ = some (.int .i64 d.spec.num)) w' := fun w' hb => by
          obtain ⟨_, f0, f1, f2, f3⟩ := HXf.out.below hb
          obtain ⟨_, f4, f5, f6, f7, f8, f9⟩ := HYf.out.below hb
          exact ⟨f0, f1, f2, f3, f4, f5, f6, f7, f8, f9⟩
        have HS6 := Lib.hid hS6
        have HOF := Lib.hid (fun (W : World) (hb : Below w6.heap.size w6 W) => ((HC.out.below HBf.out).dms).fix hb)
        have hmo : ∀ (W : World) (i : Nat) x us, [d][i]? = some x → [[.int .i64 d.how, .string d.spec.chan, .string d.spec.name, .slice ra d.spec.rows.length rc, .string d.spec.build, .int .i64 d.spec.num]][i]? = some us → us.length = 6 ∧ fixR RDm w6 W us x := fun W i x us hx hu => by
          match i, hx, hu with
          | 0, hx, hu => simp at hx hu; subst hx hu; exact ⟨rfl, stays_RDm _ _ _ _ HBf.out HR.out⟩
          | n + 1, hx, hu => simp at hx
        have hmade : ∀ (W : World) (n : Nat), W.heap.size = n → Sl (fixR RDm w6) 6 (W.alloc (Obj.cells #[.int .i64 d.how, .string d.spec.chan, .string d.spec.name, .slice ra d.spec.rows.length rc, .string d.spec.build, .int .i64 d.spec.num] 37)) (some ⟨n, 0, none⟩) [d] := fun W n hn =>
          sl_made (R := fixR RDm w6) (k := 6) W [d] [[.int .i64 d.how, .string d.spec.chan, .string d.spec.name, .slice ra d.spec.rows.length rc, .string d.spec.build, .int .i64 d.spec.num]] 37 n hn _ rfl rfl (by simp) (hmo _) (by simp)
        have HMC := Lib.hid (fun (W : World) => hmade W _ rfl)
        have HMB := Lib.hid (Sl.below (stays_fixR _ _) (hmade (w6.alloc (Obj.cells #[] 37)) (w6.heap.size + 1) (by simp)) ((Below.refl _ _).drew))
        have HMA := Lib.hid (Sl.below (stays_fixR _ _) (hmade w6 w6.heap.size rfl) ((b1 _ (Obj.cells #[] 37)).drew))
        clear hS6 hmo hmade
        go_cut [8] (fun s8 wx => ∃ (a9 : Option Addr) (c9 : Nat), s8 = .slice a9 (ds.length + 1) c9 ∧ Sl RDm 6 wx a9 (ds ++ [d]) ∧ Below w6.heap.size w6 wx)
        case first =>
          go_region_held3 (fun w' => w'.cell? ⟨w.heap.size, 0, none⟩ = some (.slice a l.length c) ∧ w'.cell? ⟨w.heap.size, 1, none⟩ = some (.slice o on.length oc) ∧ w'.cell? ⟨w.heap.size, 2, none⟩ = some (.slice b ch.length e) ∧ w'.cell? ⟨w.heap.size, 3, none⟩ = some (.slice da ds.length dc) ∧ w'.cell? ⟨w.heap.size + 1, 0, none⟩ = some (.int .i64 d.how) ∧ w'.cell? ⟨w.heap.size + 1, 1, none⟩ = some (.string d.spec.chan) ∧ w'.cell? ⟨w.heap.size + 1, 2, none⟩ = some (.string d.spec.name) ∧ w'.cell? ⟨w.heap.size + 1, 3, none⟩ = some (.slice ra d.spec.rows.length rc) ∧ w'.cell? ⟨w.heap.size + 1, 4, none⟩ = some (.string d.spec.build) ∧ w'.cell? ⟨w.heap.size + 1, 5, none⟩ = some (.int .i64 d.spec.num))
            (first | exact HS6.out _ (Below.refl _ _) | exact HS6.out _ ((Below.refl _ _).drew) | exact HS6.out _ hb9 | exact HS6.out _ (hb7.alloc hb7.size _) | exact HS6.out _ hb7 | exact HS6.out _ ((Below.refl _ _).drew.alloc (Nat.le_refl _) _) | exact HS6.out _ (((Below.refl _ _).drew.alloc (Nat.le_refl _) _).alloc (by simp) _) | go_keep)
            (first
            | (refine step_append_flat (R := fixR RDm w6) Tryd.infoDm rfl (by decide) rfl (.tmp 75) (.tmp 77) 24 rfl Tryd.underlying24 w6.heap.size _ _ _ [] rfl (by first | exact (Own.made0' _ _ _ _ _ (by first | rfl | simp) (by omega)).below ((Below.refl _ _).drew) | exact (Own.made0' _ _ _ _ _ (by first | rfl | simp) (by omega)).below ((b1 _ _).drew)) _ _ _ ds rfl rfl (HOF.out _ (by first | exact (((Below.refl _ _).drew.alloc (Nat.le_refl _) _).alloc (by simp) _) | exact ((Below.refl _ _).drew.alloc (Nat.le_refl _) _))) ones_RDm HC.out.cd.2 (by omega) (by omega) (by simp; try omega) ?_; intro a7 c7 w7 cells7 hown7 hF7 hg7 hB7; have hb7 : Below w6.heap.size w6 w7 := Below.trans (by first | exact (((Below.refl _ _).drew.alloc (Nat.le_refl _) _).alloc (by simp) _) | exact ((Below.refl _ _).drew.alloc (Nat.le_refl _) _)) hB7; (first | (have hD7 := Sl.growE hg7 (by omega) HMB.out) | (have hD7 := Sl.growE hg7 (by omega) HMA.out) | (have hD7 := True.intro)); simp only [Nat.zero_add, List.nil_append] at hown7; have HO7 := Lib.hid hown7; have HF7 := Lib.hid hF7; have HD7 := Lib.hid hD7; clear hown7 hF7 hg7 hB7 hD7)
            | (refine step_append_flat (R := fixR RDm w6) Tryd.infoDm rfl (by decide) rfl (.tmp 78) (.tmp 80) 24 rfl Tryd.underlying24 w6.heap.size _ _ _ cells7 rfl (by first | exact HO7.out | exact HO7.out.below (b1 _ _) | (simp only [Nat.zero_add]; exact HO7.out)) _ _ _ [d] rfl rfl (by first | exact HD7.out | exact HMC.out _) ones_RDm (by intro e; cases e) (by omega) (by omega) (by have := hb7.size; simp; try omega) ?_; intro a9 c9 w9 cells9 hown9 hF9 hg9 hB9; (try simp only [Nat.zero_add] at hown9); have hb9 : Below w6.heap.size w6 w9 := Below.trans (by first | exact hb7 | exact hb7.alloc hb7.size _) hB9; have hsl9 : Sl RDm 6 w9 a9 (ds ++ [d]) := Own.sl (by rw [List.length_append]; exact hown9) ((HF7.out.unfix stays_RDm hb9).append (hF9.unfix stays_RDm hb9)) (by simp; omega); have HSL9 := Lib.hid hsl9; clear hsl9 hown9 hF9 hg9 hB9))
          all_goals
            go_wp2_with fail
            go_meet
            exact ⟨a9, c9, rfl, HSL9.out, hb9⟩
        case rest =>
          obtain ⟨a9, c9, rfl, hsl9, hb9⟩ := hcut
          obtain ⟨w9, rfl⟩ : ∃ w9 : World, w9 = wc := ⟨_, rfl⟩
          have HSL9 := Lib.hid hsl9
          clear hsl9
          have HBg := Lib.hid (fin HBf.out hb9)
          have HXg := Lib.hid (HXf.out.below hb9)
          have HYg := Lib.hid (HYf.out.below hb9)
          clear hb9 f0 f1 f2 f3 f4 f5 f6 f7 f8 f9
          obtain ⟨zg, g0, g1, g2, g3⟩ := HXg.out
          obtain ⟨yg, g4, g5, g6, g7, g8, g9⟩ := HYg.out
          have HV9 := Lib.hid (valid_any ad a b o da c e oc dc l on ch ds w9 (HC.out.below HBg.out).rin (HC.out.below HBg.out).ons (HC.out.below HBg.out).dms (HE.out.below HBg.out))
          go_wp2_with fail
          refine HV9.out.mono ?_
          rintro e wa ⟨rfl, hb⟩
          have HBh := Lib.hid (fin HBg.out hb)
          have HXh := Lib.hid (HXg.out.below hb)
          have HYh := Lib.hid (HYg.out.below hb)
          have HSLh := Lib.hid (HSL9.out.below stays_RDm hb)
          clear hb HV9 g0 g1 g2 g3 g4 g5 g6 g7 g8 g9
          obtain ⟨zh, h0, h1, h2, h3⟩ := HXh.out
          obtain ⟨yh, h4, h5, h6, h7, h8, h9⟩ := HYh.out
          have hSa : ∀ w', Below wa.heap.size wa w' → (fun w' => w'.cell? ⟨w.heap.size, 0, none⟩ = some (.slice a l.length c) ∧ w'.cell? ⟨w.heap.size, 1, none⟩ = some (.slice o on.length oc) ∧ w'.cell? ⟨w.heap.size, 2, none⟩ = some (.slice b ch.length e) ∧ w'.cell? ⟨w.heap.size, 3, none⟩ = some (.slice da ds.length dc) ∧ w'.cell? ⟨w.heap.size + 1, 0, none⟩ = some (.int .i64 d.how) ∧ w'.cell? ⟨w.heap.size + 1, 1, none⟩ = some (.string d.spec.chan) ∧ w'.cell? ⟨w.heap.size + 1, 2, none⟩ = some (.string d.spec.name) ∧ w'.cell? ⟨w.heap.size + 1, 3, none⟩ = some (.slice ra d.spec.rows.length rc) ∧ w'.cell? ⟨w.heap.size + 1, 4, none⟩ = some (.string d.spec.build) ∧ w'.cell? ⟨w.heap.size + 1, 5, none⟩ = some (.int .i64 d.spec.num)) w' := fun w' hb => by
            obtain ⟨_, f0, f1, f2, f3⟩ := HXh.out.below hb
            obtain ⟨_, f4, f5, f6, f7, f8, f9⟩ := HYh.out.below hb
            exact ⟨f0, f1, f2, f3, f4, f5, f6, f7, f8, f9⟩
          have HSa := Lib.hid hSa
          have hvm : ∀ W, Below wa.heap.size wa W → Calls Tryd.prog 14 #[.slice a l.length c, .slice o on.length oc, .slice b ch.length e, .slice a9 (ds.length + 1) c9] W fun e w' => e = .returned (.bool (Q.valid l on ch ds && Q.holds l ch d)) ∧ Below W.heap.size W w' := fun W hb => by
            have := valid_any ad a b o a9 c e oc c9 l on ch (ds ++ [d]) W ((HC.out.below HBh.out).below hb).rin ((HC.out.below HBh.out).below hb).ons (HSLh.out.below stays_RDm hb) ((HE.out.below HBh.out).below hb)
            rw [Q.valid_snoc, List.length_append, List.length_singleton] at this
            exact this
          have hsame : ∀ (W : World) (ca : Option Addr) (cc : Nat), Below wa.heap.size wa W → Bools W ca ch → Calls Tryd.prog 19 #[.slice ca ch.length cc, .slice b ch.length e] W fun e w' => e = .returned (.bool true) ∧ Below W.heap.size W w' := fun W ca cc hb hB => by
            have := sameBools_any ca b cc e ch ch W hB ((HC.out.below HBh.out).below hb).chs
            rw [show Q.eqB ch ch = true by unfold Q.eqB; simp] at this
            exact this
          have hchos : ∀ W, Below wa.heap.size wa W → Calls Tryd.prog 20 #[.slice b ch.length e, .int .i64 ch.length] W (ChosenAs W ch) := fun W hb => by
            rcases Nat.eq_zero_or_pos ch.length with h0 | h0
            · have := chosen_nil b e ch (ch.length : Int) W (by omega)
              refine this.mono fun e w' ⟨h1, h2⟩ => ⟨none, 0, ?_, ?_, ?_⟩
              · rw [h1, h0]
              · rw [List.eq_nil_of_length_eq_zero h0]; exact ⟨fun h => by simp at h, by simp⟩
              · rw [← h2]; exact Below.refl _ _
            · have := chosen_any b e ch ch.length W ((HC.out.below HBh.out).below hb).chs h0 (by have := HL2.out; omega)
              refine this.mono fun e w' ⟨ca, cc, h1, _, h2, h3⟩ => ⟨ca, cc, ?_, ?_, h3⟩
              · rw [h1, Q.chosenL_len]
              · rwa [chosenL_self] at h2
          have HVM := Lib.hid hvm
          have HSM := Lib.hid hsame
          have HCH := Lib.hid hchos
          clear hSa hvm hsame hchos h0 h1 h2 h3 h4 h5 h6 h7 h8 h9
          generalize hv : Q.valid l on ch ds = v at HVM ⊢
          generalize hh : Q.holds l ch d = h at HVM ⊢
          have HHH := Lib.hid hh
          clear hv hh
          go_wp2
          cases v
          · cases h
            all_goals
              refine wp_region_held_drew (S := (fun w' => w'.cell? ⟨w.heap.size, 0, none⟩ = some (.slice a l.length c) ∧ w'.cell? ⟨w.heap.size, 1, none⟩ = some (.slice o on.length oc) ∧ w'.cell? ⟨w.heap.size, 2, none⟩ = some (.slice b ch.length e) ∧ w'.cell? ⟨w.heap.size, 3, none⟩ = some (.slice da ds.length dc) ∧ w'.cell? ⟨w.heap.size + 1, 0, none⟩ = some (.int .i64 d.how) ∧ w'.cell? ⟨w.heap.size + 1, 1, none⟩ = some (.string d.spec.chan) ∧ w'.cell? ⟨w.heap.size + 1, 2, none⟩ = some (.string d.spec.name) ∧ w'.cell? ⟨w.heap.size + 1, 3, none⟩ = some (.slice ra d.spec.rows.length rc) ∧ w'.cell? ⟨w.heap.size + 1, 4, none⟩ = some (.string d.spec.build) ∧ w'.cell? ⟨w.heap.size + 1, 5, none⟩ = some (.int .i64 d.spec.num))) (by kernel_rfl) (HSa.out _ ((Below.refl _ _).drew)) (fun hHeld => ?_)
              refine wpAnyH_take (i := 0) (oi := _) (v := ?_) rfl (by kernel_rfl) (by kernel_rfl) (by kernel_rfl) (fun _ _ _ h => h) (Or.inl ⟨by rfl, ?_⟩) (by assumption) ?_
              rotate_left
              · intro w hSw
                try dsimp only at hSw
                go_simp
                try with_reducible rfl
              try simp only [Act.put, List.setIfInBounds_toArray, List.set_cons_zero, List.set_cons_succ, List.getElem_toArray, List.getElem_cons_zero]
              refine wpAnyH_take (i := 1) (oi := _) (v := ?_) rfl (by kernel_rfl) (by kernel_rfl) (by kernel_rfl) (fun _ _ _ h => h) (Or.inl ⟨by rfl, ?_⟩) (by assumption) ?_
              rotate_left
              · intro w hSw
                try dsimp only at hSw
                go_simp
                try with_reducible rfl
              try simp only [Act.put, List.setIfInBounds_toArray, List.set_cons_zero, List.set_cons_succ, List.getElem_toArray, List.getElem_cons_zero, List.getElem_cons_succ]
              refine wpAnyH_take (i := 2) (oi := _) (v := ?_) rfl (by kernel_rfl) (by kernel_rfl) (by kernel_rfl) (fun _ _ _ h => h) (Or.inl ⟨by rfl, ?_⟩) (by assumption) ?_
              rotate_left
              · intro w hSw
                try dsimp only at hSw
                go_simp
                try with_reducible rfl
              try simp only [Act.put, List.setIfInBounds_toArray, List.set_cons_zero, List.set_cons_succ, List.getElem_toArray, List.getElem_cons_zero, List.getElem_cons_succ]
              refine wpAnyH_take (i := 3) (oi := _) (v := ?_) rfl (by kernel_rfl) (by kernel_rfl) (by kernel_rfl) (fun _ _ _ h => h) (Or.inl ⟨by rfl, ?_⟩) (by assumption) ?_
              rotate_left
              · intro w hSw
                try dsimp only at hSw
                go_simp
                try with_reducible rfl
              try simp only [Act.put, List.setIfInBounds_toArray, List.set_cons_zero, List.set_cons_succ, List.getElem_toArray, List.getElem_cons_zero, List.getElem_cons_succ]
              refine wpAnyH_take (i := 4) (oi := _) (v := ?_) rfl (by kernel_rfl) (by kernel_rfl) (by kernel_rfl) (fun _ _ _ h => h) (Or.inl ⟨by rfl, ?_⟩) (by assumption) ?_
              rotate_left
              · intro w hSw
                try dsimp only at hSw
                go_simp
                try with_reducible rfl
              try simp only [Act.put, List.setIfInBounds_toArray, List.set_cons_zero, List.set_cons_succ, List.getElem_toArray, List.getElem_cons_zero, List.getElem_cons_succ]
              refine wpAnyH_take (i := 5) (oi := _) (v := ?_) rfl (by kernel_rfl) (by kernel_rfl) (by kernel_rfl) (fun _ _ _ h => h) (Or.inl ⟨by rfl, ?_⟩) (by assumption) ?_
              rotate_left
              · intro w hSw
                try dsimp only at hSw
                go_simp
                try with_reducible rfl
              try simp only [Act.put, List.setIfInBounds_toArray, List.set_cons_zero, List.set_cons_succ, List.getElem_toArray, List.getElem_cons_zero, List.getElem_cons_succ]
              refine wpAnyH_take (i := 6) (oi := _) (v := ?_) rfl (by kernel_rfl) (by kernel_rfl) (by kernel_rfl) (fun _ _ _ h => h) (Or.inl ⟨by rfl, ?_⟩) (by assumption) ?_
              rotate_left
              · intro w hSw
                try dsimp only at hSw
                go_simp
                try with_reducible rfl
              try simp only [Act.put, List.setIfInBounds_toArray, List.set_cons_zero, List.set_cons_succ, List.getElem_toArray, List.getElem_cons_zero, List.getElem_cons_succ]
              refine wpAnyH_take (i := 8) (oi := _) (v := ?_) rfl (by kernel_rfl) (by kernel_rfl) (by kernel_rfl) (fun _ _ _ h => h) (Or.inl ⟨by rfl, ?_⟩) (by assumption) ?_
              rotate_left
              · intro w hSw
                try dsimp only at hSw
                go_simp
                try with_reducible rfl
              try simp only [Act.put, List.setIfInBounds_toArray, List.set_cons_zero, List.set_cons_succ, List.getElem_toArray, List.getElem_cons_zero, List.getElem_cons_succ]
              refine wpAnyH_ready (rs := [7]) (by kernel_rfl) (by simp) ?_
              refine AllReadyH.cons (o := _) rfl (fun K hK => ?_) AllReadyH.nil
              go_simp
              refine (HVM.out _ ((Below.refl _ _).drew)).mono ?_
              rintro e wb ⟨rfl, hb⟩
              have hbB : Below wa.heap.size wa wb := fin ((Below.refl _ _).drew) hb
              clear hb
              go_wp2_with fail
              refine hK.out _ _ (by (first | exact HSa.out _ (Below.refl _ _) | exact HSa.out _ ((Below.refl _ _).drew) | exact HSa.out _ hbE | exact HSa.out _ hbD | exact HSa.out _ hbC | exact HSa.out _ hbB)) (fun hHeld => ?_)
              clear hK K
              try simp only [Act.put, List.setIfInBounds_toArray, List.set_cons_zero, List.set_cons_succ, List.getElem_toArray, List.getElem_cons_zero, List.getElem_cons_succ]
              refine wpAnyH_take (i := 9) (oi := _) (v := ?_) rfl (by kernel_rfl) (by kernel_rfl) (by kernel_rfl) (fun _ _ _ h => h) (Or.inl ⟨by rfl, ?_⟩) (by assumption) ?_
              rotate_left
              · intro w hSw
                try dsimp only at hSw
                go_simp
                try with_reducible rfl
              try simp only [Act.put, List.setIfInBounds_toArray, List.set_cons_zero, List.set_cons_succ, List.getElem_toArray, List.getElem_cons_zero, List.getElem_cons_succ]
              refine wpAnyH_take (i := 10) (oi := _) (v := undef) rfl (by kernel_rfl) (by kernel_rfl) (by kernel_rfl) (fun _ _ _ h => h) (Or.inr ⟨by rfl, rfl⟩) (by assumption) ?_
              try simp only [Act.put, List.setIfInBounds_toArray, List.set_cons_zero, List.set_cons_succ, List.getElem_toArray, List.getElem_cons_zero, List.getElem_cons_succ]
              refine wpAnyH_take (i := 11) (oi := _) (v := undef) rfl (by kernel_rfl) (by kernel_rfl) (by kernel_rfl) (fun _ _ _ h => h) (Or.inr ⟨by rfl, rfl⟩) (by assumption) ?_
              try simp only [Act.put, List.setIfInBounds_toArray, List.set_cons_zero, List.set_cons_succ, List.getElem_toArray, List.getElem_cons_zero, List.getElem_cons_succ]
              refine wpAnyH_take (i := 12) (oi := _) (v := undef) rfl (by kernel_rfl) (by kernel_rfl) (by kernel_rfl) (fun _ _ _ h => h) (Or.inr ⟨by rfl, rfl⟩) (by assumption) ?_
              try simp only [Act.put, List.setIfInBounds_toArray, List.set_cons_zero, List.set_cons_succ, List.getElem_toArray, List.getElem_cons_zero, List.getElem_cons_succ]
              refine wpAnyH_take (i := 13) (oi := _) (v := undef) rfl (by kernel_rfl) (by kernel_rfl) (by kernel_rfl) (fun _ _ _ h => h) (Or.inr ⟨by rfl, rfl⟩) (by assumption) ?_
              try simp only [Act.put, List.setIfInBounds_toArray, List.set_cons_zero, List.set_cons_succ, List.getElem_toArray, List.getElem_cons_zero, List.getElem_cons_succ]
              refine wpAnyH_take (i := 14) (oi := _) (v := undef) rfl (by kernel_rfl) (by kernel_rfl) (by kernel_rfl) (fun _ _ _ h => h) (Or.inr ⟨by rfl, rfl⟩) (by assumption) ?_
              try simp only [Act.put, List.setIfInBounds_toArray, List.set_cons_zero, List.set_cons_succ, List.getElem_toArray, List.getElem_cons_zero, List.getElem_cons_succ]
              refine wpAnyH_take (i := 15) (oi := _) (v := undef) rfl (by kernel_rfl) (by kernel_rfl) (by kernel_rfl) (fun _ _ _ h => h) (Or.inr ⟨by rfl, rfl⟩) (by assumption) ?_
              try simp only [Act.put, List.setIfInBounds_toArray, List.set_cons_zero, List.set_cons_succ, List.getElem_toArray, List.getElem_cons_zero, List.getElem_cons_succ]
              refine wpAnyH_take (i := 16) (oi := _) (v := ?_) rfl (by kernel_rfl) (by kernel_rfl) (by kernel_rfl) (fun _ _ _ h => h) (Or.inl ⟨by rfl, ?_⟩) (by assumption) ?_
              rotate_left
              · intro w hSw
                try dsimp only at hSw
                go_simp
                try with_reducible rfl
              try simp only [Act.put, List.setIfInBounds_toArray, List.set_cons_zero, List.set_cons_succ, List.getElem_toArray, List.getElem_cons_zero, List.getElem_cons_succ]
              refine wpAnyH_take (i := 17) (oi := _) (v := ?_) rfl (by kernel_rfl) (by kernel_rfl) (by kernel_rfl) (fun _ _ _ h => h) (Or.inl ⟨by rfl, ?_⟩) (by assumption) ?_
              rotate_left
              · intro w hSw
                try dsimp only at hSw
                go_simp
                try with_reducible rfl
              try simp only [Act.put, List.setIfInBounds_toArray, List.set_cons_zero, List.set_cons_succ, List.getElem_toArray, List.getElem_cons_zero, List.getElem_cons_succ]
              refine wpAnyH_take (i := 18) (oi := _) (v := ?_) rfl (by kernel_rfl) (by kernel_rfl) (by kernel_rfl) (fun _ _ _ h => h) (Or.inl ⟨by rfl, ?_⟩) (by assumption) ?_
              rotate_left
              · intro w hSw
                try dsimp only at hSw
                go_simp
                try with_reducible rfl
              try simp only [Act.put, List.setIfInBounds_toArray, List.set_cons_zero, List.set_cons_succ, List.getElem_toArray, List.getElem_cons_zero, List.getElem_cons_succ]
              refine wpAnyH_take (i := 19) (oi := _) (v := ?_) rfl (by kernel_rfl) (by kernel_rfl) (by kernel_rfl) (fun _ _ _ h => h) (Or.inl ⟨by rfl, ?_⟩) (by assumption) ?_
              rotate_left
              · intro w hSw
                try dsimp only at hSw
                go_simp
                try with_reducible rfl
              try simp only [Act.put, List.setIfInBounds_toArray, List.set_cons_zero, List.set_cons_succ, List.getElem_toArray, List.getElem_cons_zero, List.getElem_cons_succ]
              refine wpAnyH_take (i := 20) (oi := _) (v := ?_) rfl (by kernel_rfl) (by kernel_rfl) (by kernel_rfl) (fun _ _ _ h => h) (Or.inl ⟨by rfl, ?_⟩) (by assumption) ?_
              rotate_left
              · intro w hSw
                try dsimp only at hSw
                go_simp
                try with_reducible rfl
              try simp only [Act.put, List.setIfInBounds_toArray, List.set_cons_zero, List.set_cons_succ, List.getElem_toArray, List.getElem_cons_zero, List.getElem_cons_succ]
              refine wpAnyH_take (i := 21) (oi := _) (v := ?_) rfl (by kernel_rfl) (by kernel_rfl) (by kernel_rfl) (fun _ _ _ h => h) (Or.inl ⟨by rfl, ?_⟩) (by assumption) ?_
              rotate_left
              · intro w hSw
                try dsimp only at hSw
                go_simp
                try with_reducible rfl
              try simp only [Act.put, List.setIfInBounds_toArray, List.set_cons_zero, List.set_cons_succ, List.getElem_toArray, List.getElem_cons_zero, List.getElem_cons_succ]
              refine wpAnyH_take (i := 22) (oi := _) (v := ?_) rfl (by kernel_rfl) (by kernel_rfl) (by kernel_rfl) (fun _ _ _ h => h) (Or.inl ⟨by rfl, ?_⟩) (by assumption) ?_
              rotate_left
              · intro w hSw
                try dsimp only at hSw
                go_simp
                try with_reducible rfl
              try simp only [Act.put, List.setIfInBounds_toArray, List.set_cons_zero, List.set_cons_succ, List.getElem_toArray, List.getElem_cons_zero, List.getElem_cons_succ]
              refine wpAnyH_take (i := 23) (oi := _) (v := ?_) rfl (by kernel_rfl) (by kernel_rfl) (by kernel_rfl) (fun _ _ _ h => h) (Or.inl ⟨by rfl, ?_⟩) (by assumption) ?_
              rotate_left
              · intro w hSw
                try dsimp only at hSw
                go_simp
                try with_reducible rfl
              try simp only [Act.put, List.setIfInBounds_toArray, List.set_cons_zero, List.set_cons_succ, List.getElem_toArray, List.getElem_cons_zero, List.getElem_cons_succ]
              refine wpAnyH_take (i := 25) (oi := _) (v := ?_) rfl (by kernel_rfl) (by kernel_rfl) (by kernel_rfl) (fun _ _ _ h => h) (Or.inl ⟨by rfl, ?_⟩) (by assumption) ?_
              rotate_left
              · intro w hSw
                try dsimp only at hSw
                go_simp
                try with_reducible rfl
              try simp only [Act.put, List.setIfInBounds_toArray, List.set_cons_zero, List.set_cons_succ, List.getElem_toArray, List.getElem_cons_zero, List.getElem_cons_succ]
              refine wpAnyH_take (i := 26) (oi := _) (v := ?_) rfl (by kernel_rfl) (by kernel_rfl) (by kernel_rfl) (fun _ _ _ h => h) (Or.inl ⟨by rfl, ?_⟩) (by assumption) ?_
              rotate_left
              · intro w hSw
                try dsimp only at hSw
                go_simp
                try with_reducible rfl
              try simp only [Act.put, List.setIfInBounds_toArray, List.set_cons_zero, List.set_cons_succ, List.getElem_toArray, List.getElem_cons_zero, List.getElem_cons_succ]
              refine wpAnyH_ready (rs := [24]) (by kernel_rfl) (by simp) ?_
              refine AllReadyH.cons (o := _) rfl (fun K hK => ?_) AllReadyH.nil
              go_simp
              refine (HCH.out _ hbB).mono ?_
              rintro e wd ⟨ca, cc, rfl, hcB, hb⟩
              have hbD : Below wa.heap.size wa wd := fin hbB hb
              have HCB := Lib.hid hcB
              clear hb hcB
              go_wp2_with fail
              refine hK.out _ _ (by (first | exact HSa.out _ (Below.refl _ _) | exact HSa.out _ ((Below.refl _ _).drew) | exact HSa.out _ hbE | exact HSa.out _ hbD | exact HSa.out _ hbC | exact HSa.out _ hbB)) (fun hHeld => ?_)
              clear hK K
              try simp only [Act.put, List.setIfInBounds_toArray, List.set_cons_zero, List.set_cons_succ, List.getElem_toArray, List.getElem_cons_zero, List.getElem_cons_succ]
              refine wpAnyH_ready (rs := [27]) (by kernel_rfl) (by simp) ?_
              refine AllReadyH.cons (o := _) rfl (fun K hK => ?_) AllReadyH.nil
              go_simp
              refine (HSM.out _ ca cc hbD HCB.out).mono ?_
              rintro e we ⟨rfl, hb⟩
              have hbE : Below wa.heap.size wa we := fin hbD hb
              clear hb
              go_wp2_with fail
              refine hK.out _ _ (by (first | exact HSa.out _ (Below.refl _ _) | exact HSa.out _ ((Below.refl _ _).drew) | exact HSa.out _ hbE | exact HSa.out _ hbD | exact HSa.out _ hbC | exact HSa.out _ hbB)) (fun hHeld => ?_)
              clear hK K
              try simp only [Act.put, List.setIfInBounds_toArray, List.set_cons_zero, List.set_cons_succ, List.getElem_toArray, List.getElem_cons_zero, List.getElem_cons_succ]
              refine wpAnyH_take (i := 28) (oi := _) (v := ?_) rfl (by kernel_rfl) (by kernel_rfl) (by kernel_rfl) (fun _ _ _ h => h) (Or.inl ⟨by rfl, ?_⟩) (by assumption) ?_
              rotate_left
              · intro w hSw
                try dsimp only at hSw
                go_simp
                try with_reducible rfl
              try simp only [Act.put, List.setIfInBounds_toArray, List.set_cons_zero, List.set_cons_succ, List.getElem_toArray, List.getElem_cons_zero, List.getElem_cons_succ]
              refine wpAnyH_take (i := 29) (oi := _) (v := ?_) rfl (by kernel_rfl) (by kernel_rfl) (by kernel_rfl) (fun _ _ _ h => h) (Or.inl ⟨by rfl, ?_⟩) (by assumption) ?_
              rotate_left
              · intro w hSw
                try dsimp only at hSw
                go_simp
                try with_reducible rfl
              try simp only [Act.put, List.setIfInBounds_toArray, List.set_cons_zero, List.set_cons_succ, List.getElem_toArray, List.getElem_cons_zero, List.getElem_cons_succ]
              refine wpAnyH_done (by kernel_rfl) ?_ _
              go_wp2
              go_ret
              exact ⟨rfl, fin HBh.out hbE⟩
          · cases h
            all_goals
              go_region_held3 (fun w' => w'.cell? ⟨w.heap.size, 0, none⟩ = some (.slice a l.length c) ∧ w'.cell? ⟨w.heap.size, 1, none⟩ = some (.slice o on.length oc) ∧ w'.cell? ⟨w.heap.size, 2, none⟩ = some (.slice b ch.length e) ∧ w'.cell? ⟨w.heap.size, 3, none⟩ = some (.slice da ds.length dc) ∧ w'.cell? ⟨w.heap.size + 1, 0, none⟩ = some (.int .i64 d.how) ∧ w'.cell? ⟨w.heap.size + 1, 1, none⟩ = some (.string d.spec.chan) ∧ w'.cell? ⟨w.heap.size + 1, 2, none⟩ = some (.string d.spec.name) ∧ w'.cell? ⟨w.heap.size + 1, 3, none⟩ = some (.slice ra d.spec.rows.length rc) ∧ w'.cell? ⟨w.heap.size + 1, 4, none⟩ = some (.string d.spec.build) ∧ w'.cell? ⟨w.heap.size + 1, 5, none⟩ = some (.int .i64 d.spec.num))
                  (first | exact HSa.out _ (Below.refl _ _) | exact HSa.out _ ((Below.refl _ _).drew) | exact HSa.out _ hbE | exact HSa.out _ hbD | exact HSa.out _ hbC | exact HSa.out _ hbB | go_keep)
                  (first
                  | (go_at_call 14; (refine (HVM.out _ ((Below.refl _ _).drew)).mono ?_); rintro e wb ⟨rfl, hb⟩; have hbB : Below wa.heap.size wa wb := fin ((Below.refl _ _).drew) hb; clear hb)
                  | (go_at_call 13; (refine (holds_any d ra rc ad a b c e l ch _ ((HD.out.below HBh.out).below hbB) HI.out ((HC.out.below HBh.out).below hbB).rin ((HE.out.below HBh.out).below hbB)).mono ?_); rintro e wc ⟨rfl, hb⟩; rw [HHH.out]; have hbC : Below wa.heap.size wa wc := fin hbB hb; clear hb)
                  | (go_at_call 20; (first | (refine (HCH.out _ hbC).mono ?_) | (refine (HCH.out _ hbB).mono ?_)); rintro e wd ⟨ca, cc, rfl, hcB, hb⟩; have hbD : Below wa.heap.size wa wd := (by first | exact fin hbC hb | exact fin hbB hb); have HCB := Lib.hid hcB; clear hb hcB)
                  | (go_at_call 19; (refine (HSM.out _ ca cc hbD HCB.out).mono ?_); rintro e we ⟨rfl, hb⟩; have hbE : Below wa.heap.size wa we := fin hbD hb; clear hb))
              go_wp2
              go_ret
              exact ⟨rfl, fin HBh.out hbE⟩
end Go.Proofs.YtpminhafljlldaaDoor

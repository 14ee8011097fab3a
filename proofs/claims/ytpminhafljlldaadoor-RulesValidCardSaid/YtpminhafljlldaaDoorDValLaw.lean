/- The law RulesValid, walked. -/
import Derived.Test.YtpminhafljlldaaDoorDSound
import Derived.Test.YtpminhafljlldaaDoorDBroken
import Derived.Test.YtpminhafljlldaaDoorQAll
namespace Go.Proofs.YtpminhafljlldaaDoor
open Go.RowKit
open Q (It Ver Tm Sp Rc Dm)

theorem brk_false {l : List Rc} {on ch : List Bool} {d : Dm} (h : Q.holds l ch d = false) : brk l on ch d = true := by unfold brk; rw [h]; simp
theorem brk_true {l : List Rc} {on ch : List Bool} {d : Dm} (h : Q.holds l ch d = true) : brk l on ch d = !decide (on.length = l.length) := by
  have h2 : ch.length = l.length := by
    unfold Q.holds at h
    split at h
    · assumption
    · cases h
  unfold brk; rw [h]; simp [h2]
theorem valid_of_broken (l : List Rc) (on ch : List Bool) (ds : List Dm) : Q.valid l on ch ds = (((Q.brokenFrom l on ch 0 ds).length == 0) && Q.sound l on ch) := by
  rw [Q.valid_sound]
  by_cases h1 : on.length = l.length
  · by_cases h2 : ch.length = l.length
    · rw [broken_nil h1 h2, Bool.and_comm]
    · have : Q.sound l on ch = false := by unfold Q.sound; simp [h2]
      rw [this]; simp
  · have : Q.sound l on ch = false := by unfold Q.sound; simp [h1]
    rw [this]; simp
theorem ChBox.grown {W W2 w' : World} {B : Nat} {row : Option Nat} {a o b da : Option Addr} {c oc e dc : Nat} {l : List Rc} {on ch : List Bool} {ds : List Dm} (h : ChBox W B a o b da c oc e dc l on ch ds) (hb : Below W.heap.size W W2) (hg : W2.grownBy w' row) (hr : ∀ k, row = some k → B < k) : ChBox w' B a o b da c oc e dc l on ch ds := by
  have h2 := h.below hb
  have hk : w'.heap[B]? = W2.heap[B]? := hg.block B h2.lt (fun e => by have := hr B e.symm; omega)
  exact ⟨Nat.lt_of_lt_of_le h2.lt hg.size, (World.cell?_of_block (a := ⟨B, 0, none⟩) hk).trans h2.c0, (World.cell?_of_block (a := ⟨B, 1, none⟩) hk).trans h2.c1, (World.cell?_of_block (a := ⟨B, 2, none⟩) hk).trans h2.c2, (World.cell?_of_block (a := ⟨B, 3, none⟩) hk).trans h2.c3⟩
set_option maxHeartbeats 8000000 in
set_option maxRecDepth 100000 in
theorem validLaw (ad : Addr) (a o b da : Option Addr) (c oc e dc : Nat) (l : List Rc) (on ch : List Bool) (ds : List Dm) (w : World) (hC : Cho w a o b da c oc e dc l on ch ds) (hE : ErrR w ad) :
    Calls Tryd.prog 3 #[.agg #[.slice a l.length c, .slice o on.length oc, .slice b ch.length e, .slice da ds.length dc]] w fun e w' => e = .returned (.bool true) ∧ Below w.heap.size w w' := by
  have HC := Lib.hid hC
  have HE := Lib.hid hE
  have hl1 := hC.recs.len
  have hl2 := hC.ons.len
  have hl3 := hC.chs.len
  have hl4 := hC.dms.len
  clear hC hE
  have hX : ChBox (w.alloc (Obj.cells #[.slice a l.length c, .slice o on.length oc, .slice b ch.length e, .slice da ds.length dc] 26)) w.heap.size a o b da c oc e dc l on ch ds := ⟨by simp, by simp, by simp, by simp, by simp⟩
  have HX := Lib.hid hX
  clear hX
  go_enter Tryd.func3, Tryd.ntmps3
  go_wp2_with fail
  refine (alive19 ad _ (HE.out.below (b1 _ _))).mono ?_
  rintro e w1 ⟨rfl, hb⟩
  have HXa := Lib.hid (HX.out.below hb)
  have HBa := Lib.hid (fin (b1 _ _) hb)
  clear hb HX
  obtain ⟨za, a0, a1, a2, a3⟩ := HXa.out
  go_wp2_with fail
  (with_reducible refine (bigAll_any a c l 60 _ (HC.out.below HBa.out).recs (by omega)).mono ?_)
  rintro e w2 ⟨q, rfl, hq, hb⟩
  have HXb := Lib.hid (HXa.out.below hb)
  have HBb := Lib.hid (fin HBa.out hb)
  clear hb a0 a1 a2 a3
  obtain ⟨zb, b0, b1, b2, b3⟩ := HXb.out
  cases q
  case true =>
    go_wp2
    go_ret
    exact ⟨rfl, HBb.out⟩
  have h60 := hq rfl
  clear hq
  by_cases h1 : 100 < on.length
  · have d1 : decide ((100 : Int) < (on.length : Int)) = true := by simp; omega
    go_wp2
    go_ret
    exact ⟨rfl, HBb.out⟩
  have d1 : decide ((100 : Int) < (on.length : Int)) = false := by simp; omega
  by_cases h2 : 100 < ch.length
  · have d2 : decide ((100 : Int) < (ch.length : Int)) = true := by simp; omega
    go_wp2
    go_ret
    exact ⟨rfl, HBb.out⟩
  have d2 : decide ((100 : Int) < (ch.length : Int)) = false := by simp; omega
  go_wp2_with fail
  (with_reducible refine (bigD_len da dc ds _ (HC.out.below HBb.out).dms).mono ?_)
  rintro e w3 ⟨q, rfl, hq, hb⟩
  have HXc := Lib.hid (HXb.out.below hb)
  have HBc := Lib.hid (fin HBb.out hb)
  clear hb b0 b1 b2 b3
  obtain ⟨zc, c0, c1, c2, c3⟩ := HXc.out
  cases q
  case true =>
    go_wp2
    go_ret
    exact ⟨rfl, HBc.out⟩
  have hd12 := hq rfl
  clear hq d1 d2
  go_wp2
  generalize hW : w3.alloc _ = W
  have hO0 : Own 3 1 W (w.heap.size + 1) (some ⟨w3.heap.size, 0, none⟩) 0 0 [] := by subst hW; exact Own.made0 _ _ _ _ zc
  have HO0 := Lib.hid hO0
  have HBd := Lib.hid (show Below w.heap.size w W by subst hW; exact HBc.out.alloc HBc.out.size _)
  have HXd := Lib.hid (show ChBox W w.heap.size a o b da c oc e dc l on ch ds by subst hW; exact HXc.out.below (b1 _ _))
  clear hW hO0 c0 c1 c2 c3
  go_loopw [3, 4, 5, 6, 33] (fun s _ _ _ i wr => ∃ (k : Nat) (pa : Option Addr) (pc : Nat), k ≤ ds.length ∧ i = .int .i64 k ∧ s = .slice pa (Q.brokenFrom l on ch 0 (ds.take k)).length pc ∧ Own 3 1 wr (w.heap.size + 1) pa pc (Q.brokenFrom l on ch 0 (ds.take k)).length ((Q.brokenFrom l on ch 0 (ds.take k)).map (Value.int .i64)) ∧ Below w.heap.size w wr ∧ ChBox wr w.heap.size a o b da c oc e dc l on ch ds) (fun _ _ _ _ i _ => ds.length - (intOf i).toNat)
  case atStart => exact ⟨0, some ⟨w3.heap.size, 0, none⟩, 0, Nat.zero_le _, rfl, rfl, HO0.out, HBd.out, HXd.out⟩
  case round =>
    obtain ⟨k, pa, pc, hk, rfl, rfl, hown, hbr, hxx⟩ := hrel
    have HO := Lib.hid hown
    have HB := Lib.hid hbr
    have HXe := Lib.hid hxx
    have hbl9 := broken_len l on ch (ds.take k) 0
    rw [List.length_take] at hbl9
    clear hown hbr hxx
    obtain ⟨ze, e0, e1, e2, e3⟩ := HXe.out
    by_cases hlt : k < ds.length
    · obtain ⟨d, hx⟩ : ∃ x, ds[k]? = some x := ⟨ds[k], by simp [hlt]⟩
      obtain ⟨bb, off, ra, rc, rfl, hbl, ⟨t0, t1, t2, t3, t4, t5⟩, hat, hw⟩ := ((HC.out.below HB.out).dms).cellsDm hx
      have HX9 := Lib.hid (broken_snoc (l := l) (on := on) (ch := ch) hx)
      have HA := Lib.hid hat
      have HW := Lib.hid hw
      clear hx hat hw
      go_wp2_with fail
      (with_reducible refine (dholds_any d.how d.spec ra rc a b c e l ch _ (HA.out.below (b1 _ _)) HW.out ((HC.out.below HB.out).rin.below (b1 _ _))).mono ?_)
      rintro e w4 ⟨rfl, hb⟩
      have g0 : w4.cell? ⟨wr.heap.size, 0, none⟩ = some (.int .i64 d.how) := (hb.cell (p := ⟨wr.heap.size, 0, none⟩) (by simp)).trans (by simp)
      have g1 : w4.cell? ⟨wr.heap.size, 1, none⟩ = some (.string d.spec.chan) := (hb.cell (p := ⟨wr.heap.size, 1, none⟩) (by simp)).trans (by simp)
      have g2 : w4.cell? ⟨wr.heap.size, 2, none⟩ = some (.string d.spec.name) := (hb.cell (p := ⟨wr.heap.size, 2, none⟩) (by simp)).trans (by simp)
      have g3 : w4.cell? ⟨wr.heap.size, 3, none⟩ = some (.slice ra d.spec.rows.length rc) := (hb.cell (p := ⟨wr.heap.size, 3, none⟩) (by simp)).trans (by simp)
      have g4 : w4.cell? ⟨wr.heap.size, 4, none⟩ = some (.string d.spec.build) := (hb.cell (p := ⟨wr.heap.size, 4, none⟩) (by simp)).trans (by simp)
      have g5 : w4.cell? ⟨wr.heap.size, 5, none⟩ = some (.int .i64 d.spec.num) := (hb.cell (p := ⟨wr.heap.size, 5, none⟩) (by simp)).trans (by simp)
      have HB4 := Lib.hid (fin (HB.out.alloc HB.out.size _) hb)
      have HO4 := Lib.hid ((HO.out.below (b1 _ _)).below hb)
      have HA4 := Lib.hid ((HA.out.below (b1 _ _)).below hb)
      have HX4 := Lib.hid ((HXe.out.below (b1 _ _)).below hb)
      clear hb e0 e1 e2 e3
      obtain ⟨zf, f0, f1, f2, f3⟩ := HX4.out
      rw [Q.dhold_eq]
      go_wp2_with fail
      (with_reducible refine (holds_any d ra rc ad a b c e l ch _ HA4.out HW.out (HC.out.below HB4.out).rin (HE.out.below HB4.out)).mono ?_)
      rintro e w5 ⟨rfl, hb⟩
      have HB5 := Lib.hid (fin HB4.out hb)
      have HO5 := Lib.hid (HO4.out.below hb)
      have HX5 := Lib.hid (HX4.out.below hb)
      have hz5 : w.heap.size ≤ w5.heap.size := HB5.out.size
      clear hb f0 f1 f2 f3 g0 g1 g2 g3 g4 g5
      obtain ⟨zg, g0, g1, g2, g3⟩ := HX5.out
      generalize hs : Q.holds l ch d = v
      have HV := Lib.hid hs
      clear hs
      have nv : (v != v) = false := by simp
      cases v
      · have hbk : Q.brokenFrom l on ch 0 (ds.take (k + 1)) = Q.brokenFrom l on ch 0 (ds.take k) ++ [(k : Int)] := by rw [HX9.out, brk_false HV.out]; rfl
        have HBK := Lib.hid hbk
        clear hbk
        go_wp2_with (at_builtin; refine wpList_append_flat Tryd.infoInt rfl (by decide) rfl (.tmp 66) (.tmp 68) 30 rfl Tryd.underlying30 (w.heap.size + 1) _ _ _ _ rfl (HO5.out.below (b1 _ _)) _ _ _ [.int .i64 k] rfl rfl (RV.one w5 (.int .i64 k) rfl _) (RV.ones _) (fun e => by cases e) (by omega) (by omega) (by simp; omega) ?_; intro a1 c1 wq cells1 hown1 hF1 hg1 hB1; have HB1 := Lib.hid hB1; have HO1 := Lib.hid hown1; have HF1 := Lib.hid hF1.rv; have HG1 := Lib.hid hg1; clear hg1 hown1 hB1 hF1)
        go_roundw
        case rel =>
          refine ⟨k + 1, a1, c1, by omega, by go_num, by rw [HBK.out]; simp, ?_, (HB5.out.alloc HB5.out.size _).trans (HB1.out.mono (Nat.le_succ _)), ?_⟩
          · have := HO1.out
            rw [HF1.out] at this
            rw [HBK.out]; simpa using this
          · exact HX5.out.grown (b1 _ _) HG1.out (fun q hq => ownBlock_ge HO5.out q _ hq) 
        case measure => simp [intOf]; omega
      · by_cases h1 : on.length = l.length
        · have n1 : ((on.length : Int) != (l.length : Int)) = false := by simp [h1]
          have hbk : Q.brokenFrom l on ch 0 (ds.take (k + 1)) = Q.brokenFrom l on ch 0 (ds.take k) := by rw [HX9.out, brk_true HV.out]; simp [h1]
          have HBK := Lib.hid hbk
          clear hbk h1
          go_wp2
          go_roundw
          case rel => exact ⟨k + 1, pa, pc, by omega, by go_num, by rw [HBK.out], by rw [HBK.out]; exact HO5.out, HB5.out, HX5.out⟩
          case measure => simp [intOf]; omega
        · have n1 : ((on.length : Int) != (l.length : Int)) = true := by rw [bne_iff_ne]; omega
          have hbk : Q.brokenFrom l on ch 0 (ds.take (k + 1)) = Q.brokenFrom l on ch 0 (ds.take k) ++ [(k : Int)] := by rw [HX9.out, brk_true HV.out]; simp [h1]
          have HBK := Lib.hid hbk
          clear hbk h1
          go_wp2_with (at_builtin; refine wpList_append_flat Tryd.infoInt rfl (by decide) rfl (.tmp 66) (.tmp 68) 30 rfl Tryd.underlying30 (w.heap.size + 1) _ _ _ _ rfl (HO5.out.below (b1 _ _)) _ _ _ [.int .i64 k] rfl rfl (RV.one w5 (.int .i64 k) rfl _) (RV.ones _) (fun e => by cases e) (by omega) (by omega) (by simp; omega) ?_; intro a1 c1 wq cells1 hown1 hF1 hg1 hB1; have HB1 := Lib.hid hB1; have HO1 := Lib.hid hown1; have HF1 := Lib.hid hF1.rv; have HG1 := Lib.hid hg1; clear hg1 hown1 hB1 hF1)
          go_roundw
          case rel =>
            refine ⟨k + 1, a1, c1, by omega, by go_num, by rw [HBK.out]; simp, ?_, (HB5.out.alloc HB5.out.size _).trans (HB1.out.mono (Nat.le_succ _)), ?_⟩
            · have := HO1.out
              rw [HF1.out] at this
              rw [HBK.out]; simpa using this
            · exact HX5.out.grown (b1 _ _) HG1.out (fun q hq => ownBlock_ge HO5.out q _ hq) 
          case measure => simp [intOf]; omega
    · have hfull : ds.take k = ds := List.take_of_length_le (by omega)
      rw [hfull] at HO ⊢
      clear hfull
      have hwant : Sl RI 1 wr pa (Q.brokenFrom l on ch 0 ds) := Own.sl HO.out (flat_ints _ _) (by have := broken_len l on ch ds 0; omega)
      have HWA := Lib.hid hwant
      have hbl := broken_len l on ch ds 0
      clear hwant
      have HVB := Lib.hid (valid_of_broken l on ch ds)
      go_wp2_with fail
      (with_reducible refine (valid_any ad a b o da c e oc dc l on ch ds _ (HC.out.below HB.out).rin (HC.out.below HB.out).ons (HC.out.below HB.out).dms (HE.out.below HB.out)).mono ?_)
      rintro e w4 ⟨rfl, hb⟩
      have HB4 := Lib.hid (fin HB.out hb)
      have HX4 := Lib.hid (HXe.out.below hb)
      have HWB := Lib.hid (HWA.out.below (fun _ _ _ _ _ h => h) hb)
      clear hb e0 e1 e2 e3
      obtain ⟨zf, f0, f1, f2, f3⟩ := HX4.out
      rw [HVB.out]
      have hbrk := fun (W : World) (hb : Below w.heap.size w W) => broken_any ad a b o da c e oc dc l on ch ds W (HC.out.below hb).rin (HC.out.below hb).ons (HC.out.below hb).dms (HE.out.below hb)
      have HBRK := Lib.hid hbrk
      have hsame := fun (W : World) (a1 : Option Addr) (c1 : Nat) (h1 : Sl RI 1 W a1 (Q.brokenFrom l on ch 0 ds)) (h2 : Sl RI 1 W pa (Q.brokenFrom l on ch 0 ds)) => sameInts_self a1 pa c1 pc (Q.brokenFrom l on ch 0 ds) W h1 h2
      have HSAME := Lib.hid hsame
      clear hbrk hsame
      generalize hbf : Q.brokenFrom l on ch 0 ds = bf at *
      generalize hsd : Q.sound l on ch = sd
      have HSD := Lib.hid hsd
      clear hbf hsd
      by_cases hz : bf.length = 0
      · have nz : ((bf.length : Int) == 0) = true := by simp [hz]
        have nz2 : (bf.length == 0) = true := by simp [hz]
        rw [nz2]
        clear nz2 hz
        go_wp2_with fail
        (with_reducible refine (dsound_any a b o c e oc l on ch _ (HC.out.below HB4.out).rin (HC.out.below HB4.out).ons HC.out.cr.1).mono ?_)
        rintro e w5 ⟨rfl, hb⟩
        have HB5 := Lib.hid (fin HB4.out hb)
        have HX5 := Lib.hid (HX4.out.below hb)
        have HWC := Lib.hid (HWB.out.below (fun _ _ _ _ _ h => h) hb)
        clear hb f0 f1 f2 f3
        obtain ⟨zg, g0, g1, g2, g3⟩ := HX5.out
        rw [HSD.out]
        try rw [Bool.true_and]
        cases sd
        all_goals
          go_wp2_with fail
          refine (HBRK.out _ HB5.out).mono ?_
          rintro e w6 ⟨a1, c1, rfl, hsl, hb⟩
          have HB6 := Lib.hid (fin HB5.out hb)
          have HWD := Lib.hid (HWC.out.below (fun _ _ _ _ _ h => h) hb)
          have HSL := Lib.hid hsl
          clear hb hsl
          go_wp2_with fail
          refine (HSAME.out _ _ _ HSL.out HWD.out).mono ?_
          rintro e w7 ⟨rfl, hb⟩
          have HB7 := Lib.hid (fin HB6.out hb)
          clear hb
          go_wp2
          go_ret
          exact ⟨rfl, HB7.out⟩
      · have nz : ((bf.length : Int) == 0) = false := by rw [beq_eq_false_iff_ne]; omega
        have nz2 : (bf.length == 0) = false := by rw [beq_eq_false_iff_ne]; exact hz
        rw [nz2, Bool.false_and]
        clear nz2 hz
        go_wp2_with fail
        refine (HBRK.out _ HB4.out).mono ?_
        rintro e w6 ⟨a1, c1, rfl, hsl, hb⟩
        have HB6 := Lib.hid (fin HB4.out hb)
        have HWD := Lib.hid (HWB.out.below (fun _ _ _ _ _ h => h) hb)
        have HSL := Lib.hid hsl
        clear hb hsl
        go_wp2_with fail
        refine (HSAME.out _ _ _ HSL.out HWD.out).mono ?_
        rintro e w7 ⟨rfl, hb⟩
        have HB7 := Lib.hid (fin HB6.out hb)
        clear hb
        go_wp2
        go_ret
        exact ⟨rfl, HB7.out⟩
end Go.Proofs.YtpminhafljlldaaDoor

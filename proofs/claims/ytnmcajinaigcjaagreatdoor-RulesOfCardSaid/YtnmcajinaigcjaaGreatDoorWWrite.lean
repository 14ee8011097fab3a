/- The contracts of the writer's write and of rules.Of. -/
import Derived.Test.YtnmcajinaigcjaaGreatDoorJNam
import Derived.Test.YtnmcajinaigcjaaGreatDoorQBroken
import Derived.Deep.DeepCutAuto
namespace Go.Proofs.YtnmcajinaigcjaaGreatDoor
open Go.RowKit
open Q (It Ver Tm Sp Rc Dm)
open Go.Proofs.YtnmcajinaigcjaaGreatDoor.C
variable {w0 w w' : World} {q p : Nat} {a b : Option Addr} {c e : Nat} {l : List Rc} {on : List Bool} {X : Nat → Prop}

theorem W.kp_allbut {base V : Nat} {cs : List (List Int)} {fa : Option Addr} {fc : Nat} (hF : C.Fm X w base p V cs fa fc) (h : C.AllBut p w w') : C.Kp X base w w' :=
  ⟨h.os, h.tape, h.output, h.size, fun k hk hl => h.block k hk (by
    rintro rfl
    rcases hl with h1 | h1 | ⟨cur, t, m, h1, h2, h3⟩
    · have := hF.le; omega
    · exact hF.xp h1
    · rw [hF.blk] at h1; cases h1; exact h3 rfl)⟩
def W.ManyPost (X : Nat → Prop) (w : World) (base p V n : Nat) (cs : List (List Int)) (fa : Option Addr) (fc : Nat) (e : Ending) (w' : World) : Prop :=
  ∃ sa, e = .returned (.tuple #[.slice sa n n, .nilIface]) ∧ C.Fm X w' base p (V + n) cs fa fc ∧ C.OwnI w' base sa n (C.M.iota V n) ∧ C.Kp X base w w'
theorem W.many_any (base V n : Nat) (cs : List (List Int)) (fa : Option Addr) (fc : Nat) (hF : C.Fm X w base p V cs fa fc) (hv : V + n ≤ 20000) (hb : base ≤ w.heap.size) :
    Calls Tryz.prog 71 #[.pointer (some ⟨p, 0, none⟩), .int .i64 n] w (W.ManyPost X w base p V n cs fa fc) := by
  rcases Nat.eq_zero_or_pos n with rfl | hn
  · refine (C.many_zero p ((0 : Nat) : Int) w (by decide)).mono ?_
    rintro e w' ⟨rfl, rfl⟩
    exact ⟨none, rfl, hF, C.OwnI.nil _ _, C.Kp.refl _ _ _⟩
  · refine (C.many_ok base p V n cs fa fc w hF hn hv hb).mono ?_
    rintro e w' ⟨rfl, h1, h2, h3⟩
    exact ⟨_, rfl, h1, h2, W.kp_allbut hF h3⟩
theorem W.ownI_kp {base base2 : Nat} {sa : Option Addr} {sc : Nat} {zs : List Int} (h : C.OwnI w base2 sa sc zs) (hk : C.Kp X base w w') : C.OwnI w' base2 sa sc zs :=
  h.kept fun g cur hlt hc => hk.block g hlt (.inr (.inr ⟨_, _, _, hc, by decide, by decide⟩))
theorem W.rec_len {l : List Rc} (on : List Bool) (hd : ∀ r ∈ l, r.deps.length ≤ 100) (h20 : l.length ≤ 20) (i : Nat) : (M.recC l on i).length ≤ 120 := by
  unfold M.recC
  split
  · rename_i r hr
    split
    · rw [List.length_append, List.length_map]
      have h1 := hd r (List.mem_of_getElem? hr)
      have h2 := M.noneC_length ((i : Int) + 1) l.length (fun j => M.onB on j && M.cnB l r j)
      omega
    · simp
  · simp
theorem W.recs_len {l : List Rc} (on : List Bool) (hd : ∀ r ∈ l, r.deps.length ≤ 100) (h20 : l.length ≤ 20) (cs : List (List Int)) : ∀ k, ((M.recsC l on k).foldl M.addC cs).length ≤ cs.length + k * 120 := by
  intro k
  have h1 := M.addCs_length cs (M.recsC l on k)
  have h2 : (M.recsC l on k).length ≤ k * 120 := by
    induction k with
    | zero => simp [M.recsC]
    | succ k ih =>
      rw [M.recsC_succ, List.length_append]
      have := W.rec_len on hd h20 k
      have := ih (M.addCs_length _ _)
      omega
  omega
theorem W.dm_len (l : List Rc) (on : List Bool) (ds : List Dm) (h20 : l.length ≤ 20) (k : Nat) : (M.dmAt l on ds k).length ≤ 20 := by
  unfold M.dmAt
  split
  · unfold M.dmC
    split
    · simp
    · split
      · exact Nat.le_trans (M.noneC_length _ _ _) h20
      · exact Nat.le_trans (M.noneC_length _ _ _) h20
  · simp
theorem W.dms_len (l : List Rc) (on : List Bool) (ds : List Dm) (h20 : l.length ≤ 20) (cs : List (List Int)) : ∀ k, ((M.dmsC l on ds k).foldl M.addC cs).length ≤ cs.length + k * 20 := by
  intro k
  have h1 := M.addCs_length cs (M.dmsC l on ds k)
  have h2 : (M.dmsC l on ds k).length ≤ k * 20 := by
    induction k with
    | zero => simp [M.dmsC]
    | succ k ih =>
      rw [M.dmsC_succ, List.length_append]
      have := W.dm_len l on ds h20 k
      have := ih (M.addCs_length _ _)
      omega
  omega
theorem W.dmAt_at {l : List Rc} {on : List Bool} {ds : List Dm} {k : Nat} {d : Dm} (h : ds[k]? = some d) : M.dmAt l on ds k = M.dmC l on (((l.length + k : Nat) : Int) + 1) d := by
  unfold M.dmAt; rw [h]
def W.WPost (X : Nat → Prop) (w : World) (base p : Nat) (l : List Rc) (on : List Bool) (ds : List Dm) (e : Ending) (w' : World) : Prop :=
  ∃ sa fa fc, e = .returned (.tuple #[.slice sa ds.length ds.length, .nilIface]) ∧ C.Fm X w' base p (l.length + ds.length) (M.rulesC l on ds) fa fc ∧ C.OwnI w' base sa ds.length (C.M.iota l.length ds.length) ∧ C.Kp X base w w'
set_option maxHeartbeats 4000000 in
set_option maxRecDepth 100000 in
theorem W.write_any (ad : Addr) (ds : List Dm) (da : Option Addr) (dc : Nat) (hR : RIn w0 a b l on) (hl : on.length = l.length) (hE : ErrR w0 ad) (hD : Sl RDm 6 w0 da ds)
    (hW : W.Wr w0 w q p a b c e l on) (hF : C.Fm X w w0.heap.size p 0 [] none 0) (hd : ∀ r ∈ l, r.deps.length ≤ 100) (h20 : l.length ≤ 20) (hk20 : ds.length ≤ 20) :
    Calls Tryz.prog 43 #[.pointer (some ⟨q, 0, none⟩), .slice da ds.length dc] w (W.WPost X w w0.heap.size p l on ds) := by
  obtain ⟨q0, q1, q2⟩ := hW.cells
  have hql := hW.lt
  have hbw := hW.bel.size
  have HR := Lib.hid hR
  have HL := Lib.hid hl
  have HE := Lib.hid hE
  have HDM := Lib.hid hD
  have HW := Lib.hid hW
  have HD := Lib.hid hd
  have HM1 := Lib.hid (W.many_any (w := w.drew) w0.heap.size 0 l.length [] none 0 (hF.below ((Below.refl _ _).drew)) (by omega) hbw)
  clear hR hl hE hD hW hF hd
  go_enter Tryz.func43, Tryz.ntmps43
  go_wp2_with fail
  go_cut [7] (fun s7 wx => s7 = .nilIface ∧ C.Fm X wx w0.heap.size p (0 + l.length) [] none 0 ∧ C.Kp X w0.heap.size w wx)
  case first =>
    go_region_law
      (go_simp; go_at_call 71; (with_reducible refine HM1.out.mono ?_); rintro e1 w1 ⟨s1, rfl, hf1, _, hk1⟩; have HF1 := Lib.hid hf1; have hK1 := (C.Kp.of_below ((Below.refl w.heap.size w).drew)).trans hk1; have HK1 := Lib.hid hK1; clear hf1 hk1)
    all_goals
      go_wp2_with fail
      go_meet
      exact ⟨rfl, HF1.out, HK1.out⟩
  case rest =>
    obtain ⟨rfl, hf1, hk1⟩ := hcut
    obtain ⟨w1, rfl⟩ : ∃ w1 : World, w1 = wc := ⟨_, rfl⟩
    rw [Nat.zero_add] at hf1
    have hW1 := HW.out.kp hk1
    obtain ⟨r0, r1, r2⟩ := hW1.cells
    have hq1 := hW1.lt
    have HM2 := Lib.hid (W.many_any w0.heap.size l.length ds.length [] none 0 hf1 (by omega) hW1.bel.size)
    have HK1 := Lib.hid hk1
    have HW1 := Lib.hid hW1
    clear hf1 hk1 hW1 HM1
    go_wp2_with fail
    (with_reducible refine HM2.out.mono ?_)
    rintro e1 w2 ⟨sa, rfl, hf2, ho2, hk2⟩
    have hW2 := HW1.out.kp hk2
    obtain ⟨x0, x1, x2⟩ := hW2.cells
    have hq2 := hW2.lt
    have HNM := Lib.hid (W.names_any (l.length + ds.length) [] none 0 HR.out HL.out hW2 hf2 (by omega) h20 (by simp))
    have HK2 := Lib.hid (HK1.out.trans hk2)
    have HO2 := Lib.hid ho2
    have HW2 := Lib.hid hW2
    clear hf2 ho2 hk2 hW2 HM2
    go_wp2_with fail
    (with_reducible refine HNM.out.mono ?_)
    rintro e1 w3 ⟨rfl, fa3, fc3, hf3, hk3⟩
    have hW3 := HW2.out.kp hk3
    obtain ⟨z0, z1, z2⟩ := hW3.cells
    have hq3 := hW3.lt
    have hnl := W.names_len l on h20 l.length
    have hol := W.off_len on [] l.length
    have HF3 := Lib.hid hf3
    have HW3 := Lib.hid hW3
    have HK3 := Lib.hid (HK2.out.trans hk3)
    have HO3 := Lib.hid (W.ownI_kp HO2.out hk3)
    obtain ⟨cs1, hcs1⟩ : ∃ x, (M.offC on l.length).foldl M.addC [] ++ M.namesC l on l.length = x := ⟨_, rfl⟩
    have hl1 : cs1.length ≤ 20000 := by
      rw [← hcs1, List.length_append]
      have h1 : l.length * 400 ≤ 20 * 400 := Nat.mul_le_mul_right 400 h20
      simp only [List.length_nil] at hol
      omega
    rw [hcs1] at HF3
    have HCS1 := Lib.hid hcs1
    clear hf3 hk3 hW3 hnl hol hcs1 HNM
    go_wp2
    go_loopw [11, 12, 55] (fun _ _ i wr => ∃ (k : Nat) (fa : Option Addr) (fc : Nat), k ≤ l.length ∧ i = .int .i64 k ∧ C.Fm X wr w0.heap.size p (l.length + ds.length) ((M.recsC l on k).foldl M.addC cs1) fa fc ∧ C.Kp X w0.heap.size w3 wr) (fun _ _ i _ => l.length - (intOf i).toNat)
    case atStart => exact ⟨0, fa3, fc3, Nat.zero_le _, rfl, HF3.out, C.Kp.refl _ _ _⟩
    case round =>
      obtain ⟨k, fa4, fc4, hk, rfl, hf, hkp⟩ := hrel
      have HFR := Lib.hid hf
      have HKP := Lib.hid hkp
      have hrl := W.recs_len on HD.out h20 cs1 k
      clear hf hkp
      by_cases hlt : k < l.length
      · have hk9 : k * 120 ≤ 20 * 120 := Nat.mul_le_mul_right 120 (by omega)
        have HRC := Lib.hid (W.rec_any ad (l.length + ds.length) _ fa4 fc4 k hlt (fun r hr => HD.out r (List.mem_of_getElem? hr)) HR.out HL.out HE.out (HW3.out.kp HKP.out) HFR.out (by omega) (by omega))
        clear hrl hk9
        go_wp2_with fail
        (with_reducible refine HRC.out.mono ?_)
        rintro e1 w5 ⟨rfl, fa5, fc5, hf5, hk5⟩
        have HF5 := Lib.hid hf5
        have HK5 := Lib.hid (HKP.out.trans hk5)
        clear hf5 hk5 HRC
        go_wp2
        go_roundw
        case rel => exact ⟨k + 1, fa5, fc5, by omega, by go_num, by rw [M.recsC_succ, List.foldl_append]; exact HF5.out, HK5.out⟩
        case measure => simp [intOf]; omega
      · obtain rfl : k = l.length := by omega
        have hk9 : l.length * 120 ≤ 20 * 120 := Nat.mul_le_mul_right 120 (by omega)
        obtain ⟨cs2, hcs2⟩ : ∃ x, (M.recsC l on l.length).foldl M.addC cs1 = x := ⟨_, rfl⟩
        rw [hcs2] at hrl
        have hf6 := HFR.out
        rw [hcs2] at hf6
        have HF6 := Lib.hid hf6
        have HCS2 := Lib.hid hcs2
        obtain ⟨w6, hw6⟩ : ∃ x, x = wr := ⟨_, rfl⟩
        subst hw6
        have HW6 := Lib.hid (HW3.out.kp HKP.out)
        have HK6 := Lib.hid (HK3.out.trans HKP.out)
        have HO6 := Lib.hid (W.ownI_kp HO3.out HKP.out)
        have hl2 : cs2.length ≤ 30000 := by omega
        clear hrl hk9 hf6 hcs2 HFR HKP
        go_wp2
        go_loopw [13, 14, 15, 67] (fun _ _ _ i wr => ∃ (k : Nat) (fa : Option Addr) (fc : Nat), k ≤ ds.length ∧ i = .int .i64 k ∧ C.Fm X wr w0.heap.size p (l.length + ds.length) ((M.dmsC l on ds k).foldl M.addC cs2) fa fc ∧ C.Kp X w0.heap.size w6 wr) (fun _ _ _ i _ => ds.length - (intOf i).toNat)
        case atStart => exact ⟨0, fa4, fc4, Nat.zero_le _, rfl, HF6.out, C.Kp.refl _ _ _⟩
        case round =>
          obtain ⟨k, fa7, fc7, hk, rfl, hf, hkp⟩ := hrel
          have HFR := Lib.hid hf
          have HKP := Lib.hid hkp
          have HWR := Lib.hid (HW6.out.kp hkp)
          have hdl := W.dms_len l on ds h20 cs2 k
          have hor := W.ownI_kp HO6.out hkp
          clear hf hkp
          by_cases hlt : k < ds.length
          · obtain ⟨d, hx⟩ : ∃ x, ds[k]? = some x := ⟨ds[k], by simp [hlt]⟩
            obtain ⟨b3, off3, ra, rc, rfl, hbl3, ⟨g0, g1, g2, g3, g4, g5⟩, hs, hhow⟩ := HDM.out.cellsDm hx
            have hbl4 : b3 < wr.heap.size := Nat.lt_of_lt_of_le hbl3 HWR.out.bel.size
            have c0 := ((bcell HWR.out.bel).1 b3 (off3 + k * 6) hbl3).trans g0
            have c1 := ((bcell HWR.out.bel).1 b3 (off3 + k * 6 + 1) hbl3).trans g1
            have c2 := ((bcell HWR.out.bel).1 b3 (off3 + k * 6 + 2) hbl3).trans g2
            have c3 := ((bcell HWR.out.bel).1 b3 (off3 + k * 6 + 3) hbl3).trans g3
            have c4 := ((bcell HWR.out.bel).1 b3 (off3 + k * 6 + 4) hbl3).trans g4
            have c5 := ((bcell HWR.out.bel).1 b3 (off3 + k * 6 + 5) hbl3).trans g5
            obtain ⟨v, hv⟩ : ∃ v : Int, v = ((l.length + k : Nat) : Int) + 1 := ⟨_, rfl⟩
            have hio : (C.M.iota l.length ds.length)[k]? = some v := by
              rw [hv]
              simp only [C.M.iota, List.getElem?_map, List.getElem?_range hlt, Option.map_some]
              congr 1
              omega
            have hsc := hor.ints (fun z hz => by
              simp only [C.M.iota, List.mem_map, List.mem_range] at hz
              obtain ⟨i, hi, rfl⟩ := hz
              unfold C.I64; omega) (by rw [C.M.iota_length]; omega)
            obtain ⟨gb, go, rfl, hgl, hgc⟩ := hsc.addr (by rw [C.M.iota_length]; omega)
            have hsel := hgc k v hio
            have hown : M.own (l.length + ds.length) [v] = true := (M.own_iff _ _).2 fun z hz => by simp at hz; subst hz; omega
            obtain ⟨WA, hWA⟩ : ∃ x, x = wr.alloc (Obj.cells #[.int .i64 d.how, .string d.spec.chan, .string d.spec.name, .slice ra d.spec.rows.length rc, .string d.spec.build, .int .i64 d.spec.num] 55) := ⟨_, rfl⟩
            have hBA : Below wr.heap.size wr WA := hWA ▸ (Below.refl _ _).alloc (Nat.le_refl _) _
            have hzA : WA.heap.size = wr.heap.size + 1 := by rw [hWA]; simp
            have hblk : WA.heap[wr.heap.size]? = some (.cells #[.int .i64 d.how, .string d.spec.chan, .string d.spec.name, .slice ra d.spec.rows.length rc, .string d.spec.build, .int .i64 d.spec.num] 55 (0, 0)) := hWA ▸ heap_alloc_new _ _
            have hbx := W.dbox_of hblk ((hs.below HWR.out.bel).below hBA)
            have hselA := (hBA.cell (p := ⟨gb, go + k, none⟩) hgl).trans hsel
            have hglA : gb < WA.heap.size := by omega
            have hk9 : k * 20 ≤ 20 * 20 := Nat.mul_le_mul_right 20 (by omega)
            have HDEM := Lib.hid (W.dem_any ad (l.length + ds.length) _ fa7 fc7 v d ra rc HR.out HL.out HE.out (HWR.out.below hBA.drew) (HFR.out.below hBA.drew) hs hhow hown (by omega) (by omega))
            have HDM2 := Lib.hid (show M.dmAt l on ds k = M.dmC l on v d by rw [W.dmAt_at hx, hv])
            have HBA := Lib.hid hBA
            have HWA := Lib.hid hWA
            obtain ⟨hb0, b0, b1', b2', b3', b4', b5', _⟩ := hbx
            have hil : k < ds.length := hlt
            clear hv hio hsc hgc hsel hown hBA hWA hblk hk9 hs hhow hx hor g0 g1 g2 g3 g4 g5
            go_wp2_with fail
            rw [← HWA.out]
            go_region_law
              (go_simp; go_at_call 74; (with_reducible refine HDEM.out.mono ?_); rintro e3 w8 ⟨rfl, fa8, fc8, hf8, hk8⟩; have HF8 := Lib.hid hf8; have HK8 := Lib.hid (HKP.out.trans ((C.Kp.of_below HBA.out.drew).trans hk8)); clear hf8 hk8)
            all_goals
              clear hselA hglA b0 b1' b2' b3' b4' b5' hzA
              go_wp2
              go_roundw
              case rel => exact ⟨k + 1, fa8, fc8, by omega, by go_num, by rw [M.dmsC_succ, List.foldl_append, HDM2.out]; exact HF8.out, HK8.out⟩
              case measure => simp [intOf]; omega
          · obtain rfl : k = ds.length := by omega
            go_wp2
            go_ret2
            refine ⟨sa, fa7, fc7, rfl, ?_, hor, HK6.out.trans HKP.out⟩
            unfold M.rulesC
            rw [HCS1.out, HCS2.out]; exact HFR.out
end Go.Proofs.YtnmcajinaigcjaaGreatDoor

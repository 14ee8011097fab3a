/- The contract of the document's Sound (rules). -/
import Derived.Test.YtnmcajinaigcjaaGreatDoorDHolds
namespace Go.Proofs.YtnmcajinaigcjaaGreatDoor
open Go.RowKit
open Q (It Ver Tm Sp Rc Dm)

theorem hold3 {l : List Rc} {ch : List Bool} (hl : ch.length = l.length) (s : Sp) : (!Q.some_ (Q.against s) l ch) = Q.holds l ch ⟨3, s⟩ := by
  unfold Q.holds; rw [if_pos hl]; rfl
theorem twice_snoc {l : List Rc} {ch : List Bool} {j : Nat} {nm : List UInt8} {q : Rc} {y : Bool} (hq : l[j]? = some q) (hy : ch[j]? = some y) : Q.twice l ch (j + 1) nm = (Q.twice l ch j nm || (y && (q.name.toList == nm))) := by
  unfold Q.twice
  rw [List.range_succ, List.any_append]
  simp [hq, hy]
theorem snd_no {l : List Rc} {on ch : List Bool} {k : Nat} {r : Rc} {y : Bool} (hk : k < l.length) (hr : l[k]? = some r) (hc : ch[k]? = some true) (hy : on[k]? = some y) (h : (y && !Q.twice l ch k r.name.toList && r.cons.all fun s => Q.holds l ch ⟨3, s⟩) = false) : Q.sound l on ch = false :=
  Q.sound_no hk (by rw [Q.sndAt_on hr hc hy]; exact h)
theorem twice_up {l : List Rc} {ch : List Bool} {nm : List UInt8} {j k : Nat} (h : j ≤ k) (h2 : Q.twice l ch j nm = true) : Q.twice l ch k nm = true := by
  unfold Q.twice at *
  rw [List.any_eq_true] at *
  obtain ⟨x, h3, h4⟩ := h2
  exact ⟨x, by simp at h3 ⊢; omega, h4⟩
set_option maxHeartbeats 4000000 in
set_option maxRecDepth 100000 in
theorem dsound_any (a b o : Option Addr) (c e oc : Nat) (l : List Rc) (on ch : List Bool) (w : World) (hR : RIn w a b l ch) (hO : Bools w o on) (hcap : l.length ≤ c) :
    Calls Tryz.prog 45 #[.slice a l.length c, .slice o on.length oc, .slice b ch.length e] w fun e w' => e = .returned (.bool (Q.sound l on ch)) ∧ Below w.heap.size w w' := by
  have HR := Lib.hid hR
  have HON := Lib.hid hO
  have hl3 := hR.bools.len
  have hl4 := hR.recs.len
  have hl5 := hO.len
  generalize hq : Q.sound l on ch = q
  have HQ := Lib.hid hq
  clear hR hO hq
  by_cases h1 : on.length = l.length
  case neg =>
    have n1 : ((on.length : Int) != (l.length : Int)) = true := by rw [bne_iff_ne]; omega
    have H1 := Lib.hid h1
    clear h1
    go_enter Tryz.func45, Tryz.ntmps45
    go_wp2
    go_ret
    exact ⟨ret_bool (by rw [← HQ.out]; unfold Q.sound; simp [H1.out]), Below.refl _ _⟩
  have n1 : ((on.length : Int) != (l.length : Int)) = false := by simp [h1]
  have H1 := Lib.hid h1
  clear h1
  by_cases h2 : ch.length = l.length
  case neg =>
    have n2 : ((ch.length : Int) != (l.length : Int)) = true := by rw [bne_iff_ne]; omega
    have H2 := Lib.hid h2
    clear h2
    go_enter Tryz.func45, Tryz.ntmps45
    go_wp2
    go_ret
    exact ⟨ret_bool (by rw [← HQ.out]; unfold Q.sound; simp [H2.out]), Below.refl _ _⟩
  have n2 : ((ch.length : Int) != (l.length : Int)) = false := by simp [h2]
  have H2 := Lib.hid h2
  clear h2
  have HW := Lib.hid (dwhole_any a b c e l ch w HR.out H2.out)
  generalize hv : Q.dwhole l ch = v at HW
  have HV := Lib.hid hv
  clear hv
  go_enter Tryz.func45, Tryz.ntmps45
  go_wp2_with fail
  refine HW.out.mono ?_
  rintro e w2 ⟨rfl, hb2⟩
  have HB2 := Lib.hid hb2
  clear hb2
  cases v
  · go_wp2
    go_ret
    exact ⟨ret_bool (by rw [← HQ.out]; unfold Q.sound; rw [HV.out]; simp), HB2.out⟩
  go_wp2
  clear n1 n2
  go_loopw [7, 8, 9, 10, 12, 33] (fun _ _ _ _ _ i wr => ∃ k : Nat, k ≤ l.length ∧ i = .int .i64 k ∧ (∀ j, j < k → Q.sndAt l on ch j = true) ∧ Below w.heap.size w wr) (fun _ _ _ _ _ i _ => l.length - (intOf i).toNat)
  case atStart => exact ⟨0, by omega, rfl, (fun j hj => by omega), HB2.out⟩
  case round =>
    obtain ⟨k, hk, rfl, hf, hbr⟩ := hrel
    have HF := Lib.hid hf
    have HB := Lib.hid hbr
    clear hf hbr
    by_cases hlt : k < l.length
    · have hltc : k < ch.length := by have := H2.out; omega
      have hlto : k < on.length := by have := H1.out; omega
      obtain ⟨r, hx⟩ : ∃ x, l[k]? = some x := ⟨l[k], by simp [hlt]⟩
      obtain ⟨y, hy⟩ : ∃ x, ch[k]? = some x := ⟨ch[k], by simp [hltc]⟩
      obtain ⟨z, hz⟩ : ∃ x, on[k]? = some x := ⟨on[k], by simp [hlto]⟩
      obtain ⟨bb, off, pa, la, pc, lc, da, dc, ca, cc, fa, fc, rfl, hbl, ⟨t0, t1, t2, t3, t4, t5, t6, t7, t8, t9, t10, t11, t12⟩, hat⟩ := (HR.out.recs.below stays_RRc HB.out).rcAll hx
      obtain ⟨b2, o2, rfl, hbl2, hcb⟩ := (HR.out.bools.below HB.out).addr (by omega)
      have hcy := hcb k y hy
      obtain ⟨b3, o3, rfl, hbl3, hco⟩ := (HON.out.below HB.out).addr (by omega)
      have hcz := hco k z hz
      have HX := Lib.hid hx
      have HY := Lib.hid hy
      have HZ := Lib.hid hz
      have HA := Lib.hid hat
      have hcl := hat.cons.len
      clear hx hy hz hcb hco hat
      cases y
      · go_wp2
        go_roundw
        case rel => exact ⟨k + 1, by omega, by go_num, (fun j hj => by rcases Nat.lt_or_ge j k with h' | h'; exact HF.out j h'; rw [show j = k by omega]; exact Q.sndAt_off HY.out), HB.out.alloc HB.out.size _⟩
        case measure => simp [intOf]; omega
      cases z
      · have hzr : bb < (wr.alloc (Obj.cells #[] 0)).heap.size := by simp; omega
        go_wp2
        go_ret
        exact ⟨ret_bool (by rw [← HQ.out, snd_no hlt HX.out HY.out HZ.out rfl]), HB.out.alloc HB.out.size _⟩
      have hkc : k ≤ c := by omega
      obtain ⟨wo, rfl⟩ : ∃ wo : World, wo = wr := ⟨_, rfl⟩
      go_wp2
      generalize hW : wo.alloc _ = W
      have hbW : Below wo.heap.size wo W := by subst hW; exact b1 _ _
      have hWz : wo.heap.size < W.heap.size := by subst hW; simp
      have r2 : W.cell? ⟨wo.heap.size, 2, none⟩ = some (.string r.name) := by subst hW; simp
      have r11 : W.cell? ⟨wo.heap.size, 11, none⟩ = some (.slice ca r.cons.length cc) := by subst hW; simp
      have HBW := Lib.hid hbW
      clear hW hbW t0 t1 t2 t3 t4 t5 t6 t7 t8 t9 t10 t11 t12 hcy hcz
      go_loopw [9, 10, 52] (fun _ _ i wr => ∃ j : Nat, j ≤ k ∧ i = .int .i64 j ∧ Q.twice l ch j r.name.toList = false ∧ Below W.heap.size W wr) (fun _ _ i _ => k - (intOf i).toNat)
      case atStart => exact ⟨0, by omega, rfl, rfl, Below.refl _ _⟩
      case round =>
        obtain ⟨j, hj, rfl, htw, hbr⟩ := hrel
        have HTW := Lib.hid htw
        have HB3 := Lib.hid hbr
        have q2 : wr.cell? ⟨wo.heap.size, 2, none⟩ = some (.string r.name) := (hbr.cell (p := ⟨wo.heap.size, 2, none⟩) hWz).trans r2
        have q11 : wr.cell? ⟨wo.heap.size, 11, none⟩ = some (.slice ca r.cons.length cc) := (hbr.cell (p := ⟨wo.heap.size, 11, none⟩) hWz).trans r11
        have hqz : wo.heap.size < wr.heap.size := Nat.lt_of_lt_of_le hWz hbr.size
        have HBr := Lib.hid (fin HB.out (fin HBW.out hbr))
        clear htw hbr
        by_cases hjk : j < k
        · have hjl : j < l.length := by omega
          have hjc : j < ch.length := by omega
          obtain ⟨q, hx2⟩ : ∃ x, l[j]? = some x := ⟨l[j], by simp [hjl]⟩
          obtain ⟨y2, hy2⟩ : ∃ x, ch[j]? = some x := ⟨ch[j], by simp [hjc]⟩
          obtain ⟨bb', off', pa2, la2, pc2, lc2, da2, dc2, ca2, cc2, fa2, fc2, e9, hbl9, ⟨t0, t1, t2, t3, t4, t5, t6, t7, t8, t9, t10, t11, t12⟩, hat2⟩ := (HR.out.recs.below stays_RRc HBr.out).rcAll hx2
          cases e9
          obtain ⟨b2', o2', e8, hbl8, hcb⟩ := (HR.out.bools.below HBr.out).addr (by omega)
          cases e8
          have hcy := hcb j y2 hy2
          have HTS := Lib.hid (twice_snoc (nm := r.name.toList) hx2 hy2)
          clear hx2 hy2 hcb hat2
          cases y2
          · go_wp2
            go_roundw
            case rel => exact ⟨j + 1, by omega, by go_num, (by rw [HTS.out, HTW.out]; rfl), HB3.out.alloc HB3.out.size _⟩
            case measure => simp [intOf]; omega
          · cases hn : (q.name.toList == r.name.toList)
            · have HN := Lib.hid hn
              go_wp2
              go_roundw
              case rel => exact ⟨j + 1, by omega, by go_num, (by rw [HTS.out, HTW.out, HN.out]; rfl), HB3.out.alloc HB3.out.size _⟩
              case measure => simp [intOf]; omega
            · have HN := Lib.hid hn
              go_wp2
              go_ret
              exact ⟨ret_bool (by rw [← HQ.out, snd_no hlt HX.out HY.out HZ.out (by rw [twice_up (j := j + 1) (by omega) (by rw [HTS.out, HN.out]; simp)]; rfl)]), HBr.out.alloc HBr.out.size _⟩
        · have hje : j = k := by omega
          have HTK := Lib.hid (hje ▸ HTW.out)
          clear hje
          obtain ⟨wp, rfl⟩ : ∃ wo : World, wo = wr := ⟨_, rfl⟩
          go_wp2
          clear q2 q11 r2 r11
          go_loopw [12, 72] (fun _ i wr => ∃ m : Nat, m ≤ r.cons.length ∧ i = .int .i64 m ∧ (r.cons.take m).all (fun s => Q.holds l ch ⟨3, s⟩) = true ∧ Below wo.heap.size wo wr) (fun _ i _ => r.cons.length - (intOf i).toNat)
          case atStart => exact ⟨0, by omega, rfl, rfl, fin HBW.out HB3.out⟩
          case round =>
            obtain ⟨m, hm, rfl, hall, hbr⟩ := hrel
            have HAL := Lib.hid hall
            have HB4 := Lib.hid hbr
            clear hall hbr
            by_cases hml : m < r.cons.length
            · obtain ⟨s, hs⟩ : ∃ x, r.cons[m]? = some x := ⟨r.cons[m], by simp [hml]⟩
              obtain ⟨b4, o4, ra, rc, e7, hbl4, ⟨s0, s1, s2, s3, s4⟩, hat3⟩ := (HA.out.cons.below stays_RSp HB4.out).cellsSp hs
              subst e7
              have HS := Lib.hid hs
              have HT := Lib.hid hat3
              clear hs hat3
              go_wp2_with fail
              (with_reducible refine (dholds3_any s ra rc _ _ c e l ch _ (HT.out.below (b1 _ _)) ((HR.out.below (fin HB.out HB4.out)).below (b1 _ _)) H2.out).mono ?_)
              rintro e w3 ⟨rfl, hb⟩
              have HB5 := Lib.hid (fin (HB4.out.alloc HB4.out.size _) hb)
              clear hb
              rw [hold3 H2.out]
              generalize hho : Q.holds l ch ⟨3, s⟩ = v
              have HHO := Lib.hid hho
              clear hho
              cases v
              · go_wp2
                go_ret
                exact ⟨ret_bool (by rw [← HQ.out, snd_no hlt HX.out HY.out HZ.out (by rw [all_miss HS.out HHO.out]; simp)]), fin HB.out HB5.out⟩
              · go_wp2
                go_roundw
                case rel => exact ⟨m + 1, by omega, by go_num, all_snoc HS.out HAL.out HHO.out, HB5.out⟩
                case measure => simp [intOf]; omega
            · have hall : r.cons.all (fun s => Q.holds l ch ⟨3, s⟩) = true := by
                have := HAL.out
                rwa [List.take_of_length_le (by omega)] at this
              have HALL := Lib.hid hall
              clear hall
              go_wp2
              go_roundw
              case rel => exact ⟨k + 1, by omega, by go_num, (fun j hj => by rcases Nat.lt_or_ge j k with h' | h'; exact HF.out j h'; rw [show j = k by omega, Q.sndAt_on HX.out HY.out HZ.out, HTK.out, HALL.out]; rfl), fin HB.out HB4.out⟩
              case measure => simp [intOf]; omega
    · go_wp2
      go_ret
      refine ⟨ret_bool ?_, HB.out⟩
      rw [← HQ.out]
      unfold Q.sound
      rw [HV.out, all_range_all fun j hj => HF.out j (by omega)]
      simp [H1.out, H2.out]
end Go.Proofs.YtnmcajinaigcjaaGreatDoor

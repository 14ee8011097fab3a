/- The law ReduceKeeps, walked. -/
import Derived.Test.YtpminhafljlldaaDoorDReach
import Derived.Test.YtpminhafljlldaaDoorDNum
import Derived.Test.YtpminhafljlldaaDoorQRed2
import Derived.Test.YtpminhafljlldaaDoorQAlive13
namespace Go.Proofs.YtpminhafljlldaaDoor
open Go.RowKit
open Q (It Ver Tm Sp Rc Dm)

/-- which error a call with these lengths answers -/
def BadCall (w : World) (l : List Rc) (on : List Bool) (v : Addr) : Prop :=
  (60 < l.length ∧ w.cell? ⟨2, 0, none⟩ = some (errAt v)) ∨ (l.length ≤ 60 ∧ on.length ≠ l.length ∧ w.cell? ⟨9, 0, none⟩ = some (errAt v))
theorem check_bad (v : Addr) (a b : Option Addr) (c e : Nat) (l : List Rc) (on : List Bool) (w : World) (_hl1 : l.length ≤ 100000) (_hl2 : on.length ≤ 100000) (h : BadCall w l on v) :
    Calls Tryd.prog 53 #[.slice a l.length c, .slice b on.length e] w fun e w' => e = .returned (errAt v) ∧ w = w' := by
  rcases h with ⟨h1, hc⟩ | ⟨h1, h2, hc⟩
  · have d1 : decide ((60 : Int) < (l.length : Int)) = true := by simp; omega
    go_enter Tryd.func53, Tryd.ntmps53
    go_wp2
    go_ret
    exact ⟨rfl, rfl⟩
  · have d1 : decide ((60 : Int) < (l.length : Int)) = false := by simp; omega
    have n1 : ((on.length : Int) != (l.length : Int)) = true := by rw [bne_iff_ne]; omega
    go_enter Tryd.func53, Tryd.ntmps53
    go_wp2
    go_ret
    exact ⟨rfl, rfl⟩
set_option maxHeartbeats 1000000 in
theorem keep_bad (v : Addr) (a b : Option Addr) (c e : Nat) (l : List Rc) (on : List Bool) (w : World) (hl1 : l.length ≤ 100000) (hl2 : on.length ≤ 100000) (h : BadCall w l on v) :
    Calls Tryd.prog 23 #[.slice a l.length c, .slice b on.length e] w fun e w' => e = .returned (.tuple #[.slice none 0 0, errAt v]) ∧ Below w.heap.size w w' := by
  have HC := Lib.hid (check_bad v a b c e l on w hl1 hl2 h)
  have hneq := neqErr v
  have hneg := neqErrG v
  clear h
  unfold errAt at *
  go_enter Tryd.func23, Tryd.ntmps23
  go_wp2_with fail
  refine wp_scope_straight ?_
  go_wp2_with fail
  refine HC.out.mono ?_
  rintro e w2 ⟨rfl, rfl⟩
  go_wp2
  simp only [Exit.noGoto]
  go_ret2
  exact ⟨rfl, Below.refl _ _⟩
set_option maxHeartbeats 1000000 in
theorem reach_bad (v : Addr) (a b ro : Option Addr) (c e rc : Nat) (l : List Rc) (on : List Bool) (roots : List Sp) (w : World) (hl1 : l.length ≤ 100000) (hl2 : on.length ≤ 100000) (h : BadCall w l on v) :
    Calls Tryd.prog 24 #[.slice a l.length c, .slice b on.length e, .slice ro roots.length rc] w fun e w' => e = .returned (.tuple #[.slice none 0 0, errAt v]) ∧ Below w.heap.size w w' := by
  have HC := Lib.hid (check_bad v a b c e l on w hl1 hl2 h)
  have hneq := neqErr v
  have hneg := neqErrG v
  clear h
  unfold errAt at *
  go_enter Tryd.func24, Tryd.ntmps24
  go_wp2_with fail
  refine wp_scope_straight ?_
  go_wp2_with fail
  refine HC.out.mono ?_
  rintro e w2 ⟨rfl, rfl⟩
  go_wp2
  simp only [Exit.noGoto]
  go_ret2
  exact ⟨rfl, Below.refl _ _⟩
set_option maxHeartbeats 1000000 in
theorem reduce_bad (v : Addr) (a b ro : Option Addr) (c e rc : Nat) (l : List Rc) (on : List Bool) (roots : List Sp) (w : World) (hl1 : l.length ≤ 100000) (hl2 : on.length ≤ 100000) (h : BadCall w l on v) :
    Calls Tryd.prog 25 #[.slice a l.length c, .slice b on.length e, .slice ro roots.length rc] w fun e w' => e = .returned (.tuple #[.slice none 0 0, errAt v]) ∧ Below w.heap.size w w' := by
  have HC := Lib.hid (keep_bad v a b c e l on w hl1 hl2 h)
  have hneq := neqErr v
  have hneg := neqErrG v
  clear h
  unfold errAt at *
  go_enter Tryd.func25, Tryd.ntmps25
  go_wp2_with fail
  refine HC.out.mono ?_
  rintro e w2 ⟨rfl, hb⟩
  have HB := Lib.hid hb
  clear hb
  go_wp2
  go_ret2
  exact ⟨rfl, HB.out⟩
theorem bad_any (a b : Option Addr) (c e : Nat) (l : List Rc) (on : List Bool) (w : World) (_hl1 : l.length ≤ 100000) (_hl2 : on.length ≤ 100000) :
    Calls Tryd.prog 26 #[.slice a l.length c, .slice b on.length e] w fun e w' => e = .returned (.int .i64 (if 60 < l.length then 3 else if on.length ≠ l.length then 10 else 0)) ∧ w = w' := by
  by_cases h1 : 60 < l.length
  · rw [if_pos h1]
    have d1 : decide ((60 : Int) < (l.length : Int)) = true := by simp; omega
    go_enter Tryd.func26, Tryd.ntmps26
    go_wp2
    go_ret
    exact ⟨rfl, rfl⟩
  rw [if_neg h1]
  have d1 : decide ((60 : Int) < (l.length : Int)) = false := by simp; omega
  by_cases h2 : on.length = l.length
  · rw [if_neg (by simpa using h2)]
    have n1 : ((on.length : Int) != (l.length : Int)) = false := by simp [h2]
    clear h2
    go_enter Tryd.func26, Tryd.ntmps26
    go_wp2
    go_ret
    exact ⟨rfl, rfl⟩
  · rw [if_pos h2]
    have n1 : ((on.length : Int) != (l.length : Int)) = true := by rw [bne_iff_ne]; omega
    go_enter Tryd.func26, Tryd.ntmps26
    go_wp2
    go_ret
    exact ⟨rfl, rfl⟩
theorem Errs.range {w : World} {A : Nat → Addr} (h : Errs w A) : ErrR w (A 9) := (h.at' 9 _ rfl).cell
theorem Errs.bad {w : World} {A : Nat → Addr} {l : List Rc} {on : List Bool} (h : Errs w A) (hb : 60 < l.length ∨ on.length ≠ l.length) : BadCall w l on (A (if 60 < l.length then 2 else 9)) := by
  by_cases h1 : 60 < l.length
  · rw [if_pos h1]; exact .inl ⟨h1, (h.at' 2 _ rfl).cell⟩
  · rw [if_neg h1]; exact .inr ⟨by omega, hb.resolve_left h1, (h.at' 9 _ rfl).cell⟩
set_option maxHeartbeats 8000000 in
set_option maxRecDepth 100000 in
theorem keepsLaw (A : Nat → Addr) (a b ro : Option Addr) (c e rc : Nat) (l : List Rc) (on : List Bool) (roots : List Sp) (w : World) (hR : RIn w a b l on) (hRo : Sl RSp 5 w ro roots) (hbc : b = none → e = 0) (hA : Errs w A) :
    Calls Tryd.prog 5 #[.slice a l.length c, .slice b on.length e, .slice ro roots.length rc] w fun e w' => e = .returned (.bool true) ∧ Below w.heap.size w w' := by
  have HR := Lib.hid hR
  have HRO := Lib.hid hRo
  have HA := Lib.hid hA
  have hl1 := hR.recs.len
  have hl2 := hR.bools.len
  have hl3 := hRo.len
  clear hR hRo hA
  go_enter Tryd.func5, Tryd.ntmps5
  go_wp2_with fail
  refine (alive13 (A 9) _ HA.out.range).mono ?_
  rintro e w1 ⟨rfl, hb⟩
  have HB1 := Lib.hid hb
  clear hb
  go_wp2_with fail
  (with_reducible refine (bigAll_any a c l 62 _ (HR.out.below HB1.out).recs (by omega)).mono ?_)
  rintro e w2 ⟨q, rfl, hq, hb⟩
  have HB2 := Lib.hid (fin HB1.out hb)
  clear hb
  cases q
  case true =>
    go_wp2
    go_ret
    exact ⟨rfl, HB2.out⟩
  have h62 := hq rfl
  clear hq
  by_cases h1 : 100 < on.length
  · have d1 : decide ((100 : Int) < (on.length : Int)) = true := by simp; omega
    go_wp2
    go_ret
    exact ⟨rfl, HB2.out⟩
  have d1 : decide ((100 : Int) < (on.length : Int)) = false := by simp; omega
  go_wp2_with fail
  (with_reducible refine (bigS_any ro rc roots _ (HRO.out.below stays_RSp HB2.out)).mono ?_)
  rintro e w3 ⟨q, rfl, hq, hb⟩
  have HB3 := Lib.hid (fin HB2.out hb)
  clear hb
  cases q
  case true =>
    go_wp2
    go_ret
    exact ⟨rfl, HB3.out⟩
  have h20 := hq rfl
  clear hq d1
  have hll : l.length ≤ 62 := by omega
  by_cases hbad : 60 < l.length ∨ on.length ≠ l.length
  · have hnum : (if 60 < l.length then (3 : Int) else if on.length ≠ l.length then 10 else 0) = ((if 60 < l.length then 2 else 9 : Nat) : Int) + 1 := by
      by_cases h : 60 < l.length
      · rw [if_pos h, if_pos h]; rfl
      · rw [if_neg h, if_neg h, if_pos (hbad.resolve_left h)]; rfl
    have hi13 : (if 60 < l.length then 2 else 9 : Nat) < 13 := by split <;> omega
    have HBAD := Lib.hid (fun (W : World) (hb : Below w.heap.size w W) => (HA.out.below hb).bad (l := l) (on := on) hbad)
    generalize (if 60 < l.length then 2 else 9 : Nat) = i at hnum hi13 HBAD
    have HNUM := Lib.hid (fun (W : World) (hb : Below w.heap.size w W) => num_err A i W hi13 (HA.out.below hb))
    have HBA := Lib.hid (fun W => bad_any a b c e l on W (by omega) (by omega))
    generalize (if 60 < l.length then (3 : Int) else if on.length ≠ l.length then 10 else 0) = z at hnum HBA
    have HZ := Lib.hid hnum
    have hz0 : (z != 0) = true := by rw [bne_iff_ne]; omega
    clear hnum hbad
    have HKB := Lib.hid (fun W hb => keep_bad (A i) a b c e l on W (by omega) (by omega) (HBAD.out W hb))
    have HRB := Lib.hid (fun W hb => reach_bad (A i) a b ro c e rc l on roots W (by omega) (by omega) (HBAD.out W hb))
    have HXB := Lib.hid (fun W hb => reduce_bad (A i) a b ro c e rc l on roots W (by omega) (by omega) (HBAD.out W hb))
    unfold errAt at HKB HRB HXB HNUM
    go_wp2_with fail
    refine (HKB.out _ HB3.out).mono ?_
    rintro e w4 ⟨rfl, hb⟩
    have HB4 := Lib.hid (fin HB3.out hb)
    clear hb
    go_wp2_with fail
    refine (HRB.out _ HB4.out).mono ?_
    rintro e w5 ⟨rfl, hb⟩
    have HB5 := Lib.hid (fin HB4.out hb)
    clear hb
    go_wp2_with fail
    refine (HXB.out _ HB5.out).mono ?_
    rintro e w6 ⟨rfl, hb⟩
    have HB6 := Lib.hid (fin HB5.out hb)
    clear hb
    go_wp2_with fail
    refine (HBA.out _).mono ?_
    rintro e w7 ⟨rfl, rfl⟩
    have hzz : ((i : Int) + 1 == z) = true := by rw [beq_iff_eq]; exact HZ.out.symm
    go_wp2_with fail
    refine (HNUM.out _ HB6.out).mono ?_
    rintro e w7 ⟨rfl, hb⟩
    have HB7 := Lib.hid (fin HB6.out hb)
    clear hb
    go_wp2_with fail
    refine (HNUM.out _ HB7.out).mono ?_
    rintro e w8 ⟨rfl, hb⟩
    have HB8 := Lib.hid (fin HB7.out hb)
    clear hb
    go_wp2_with fail
    refine (HNUM.out _ HB8.out).mono ?_
    rintro e w9 ⟨rfl, hb⟩
    have HB9 := Lib.hid (fin HB8.out hb)
    clear hb
    go_wp2
    go_ret
    exact ⟨rfl, HB9.out⟩
  · have h60 : l.length ≤ 60 := by omega
    have hol : on.length = l.length := by
      by_cases h : on.length = l.length
      · exact h
      · exact absurd (.inr h) hbad
    have HOL := Lib.hid hol
    have hz : (if 60 < l.length then (3 : Int) else if on.length ≠ l.length then 10 else 0) = 0 := by rw [if_neg (by omega), if_neg (by simpa using hol)]
    have HBA := Lib.hid (fun W => bad_any a b c e l on W (by omega) (by omega))
    rw [hz] at HBA
    obtain ⟨K, hK⟩ : ∃ K, K = Q.keepIter l on (l.length + 1) := ⟨_, rfl⟩
    obtain ⟨R1, hR1⟩ : ∃ K, K = Q.reachIter l on roots (l.length + 1) := ⟨_, rfl⟩
    obtain ⟨R2, hR2⟩ : ∃ R2, R2 = Q.reachIter l K roots (l.length + 1) := ⟨_, rfl⟩
    have hkl : K.length = l.length := by rw [hK]; exact Q.keepIter_len hol _
    have HKL := Lib.hid hkl
    have HKK := Lib.hid (show R.Kept Rc.deps Q.mt l on K by rw [hK]; exact Q.keep_kept hol)
    have HRR := Lib.hid (show R.Reached Rc.deps Q.mt l on roots R1 by rw [hR1]; exact Q.reach_reached)
    have HRX := Lib.hid (show R.Reached Rc.deps Q.mt l K roots R2 by rw [hR2]; exact Q.reach_reached)
    have HDK := Lib.hid (show ∀ W, Below w.heap.size w W → Calls Tryd.prog 28 #[.slice a l.length c, .slice b on.length e] W (DBools W K) from fun W hb => by rw [hK]; exact dkeep_any a b c e l on W (HR.out.below hb) hol hbc (by omega))
    have HD1 := Lib.hid (show ∀ W, Below w.heap.size w W → Calls Tryd.prog 29 #[.slice a l.length c, .slice b on.length e, .slice ro roots.length rc] W (DBools W R1) from fun W hb => by rw [hR1]; exact dreach_any a b ro c e rc l on roots W (HR.out.below hb) (HRO.out.below stays_RSp hb) hol (by omega))
    have HD2 := Lib.hid (show ∀ W (kb : Option Addr) (ke : Nat), Below w.heap.size w W → Bools W kb K → Calls Tryd.prog 29 #[.slice a l.length c, .slice kb K.length ke, .slice ro roots.length rc] W (DBools W R2) from fun W kb ke hb hk => by rw [hR2]; exact dreach_any a kb ro c ke rc l K roots W ⟨(HR.out.below hb).recs, hk⟩ (HRO.out.below stays_RSp hb) hkl (by omega))
    have HSM := Lib.hid (show ∀ W (a1 b1 : Option Addr) (c1 e1 : Nat) (m : List Bool), Bools W a1 m → Bools W b1 m → Calls Tryd.prog 19 #[.slice a1 m.length c1, .slice b1 m.length e1] W fun e w' => e = .returned (.bool true) ∧ Below W.heap.size W w' from fun W a1 b1 c1 e1 m h1 h2 => by
      have h := sameBools_any a1 b1 c1 e1 m m W h1 h2
      rwa [show Q.eqB m m = true by unfold Q.eqB; simp] at h)
    have HKO := Lib.hid (fun W (hb : Below w.heap.size w W) => keep_ok (A 9) a b c e l on W (HR.out.below hb) hol h60 (HA.out.range.below hb))
    have HRO1 := Lib.hid (fun W (hb : Below w.heap.size w W) => reach_ok (A 9) a b ro c e rc l on roots W (HR.out.below hb) (HRO.out.below stays_RSp hb) hol h60 (HA.out.range.below hb))
    have HXO := Lib.hid (fun W (hb : Below w.heap.size w W) => reduce_ok (A 9) a b ro c e rc l on roots W (HR.out.below hb) (HRO.out.below stays_RSp hb) hol h60 (HA.out.range.below hb))
    clear hbad hol hz hK hR1 hR2 hkl
    go_wp2_with fail
    refine (HKO.out _ HB3.out).mono ?_
    rintro e w4 ⟨k0, ka, kc, rfl, hk, hbk, hb⟩
    obtain rfl : k0 = K := R.kept_unique hk HKK.out
    have HB4 := Lib.hid (fin HB3.out hb)
    have HK4 := Lib.hid hbk
    clear hb hk hbk
    go_wp2_with fail
    refine (HRO1.out _ HB4.out).mono ?_
    rintro e w5 ⟨r0, ra, rc1, rfl, hr, hbk, hb⟩
    obtain rfl : r0 = R1 := R.reach_unique hr HRR.out
    have HB5 := Lib.hid (fin HB4.out hb)
    have HK5 := Lib.hid (HK4.out.below hb)
    have HR5 := Lib.hid hbk
    clear hb hr hbk
    go_wp2_with fail
    refine (HXO.out _ HB5.out).mono ?_
    rintro e w6 ⟨k1, r1, xa, xc, rfl, hk, hr, hbk, hb⟩
    obtain rfl : k1 = k0 := R.kept_unique hk HKK.out
    obtain rfl : r1 = R2 := R.reach_unique hr HRX.out
    have HB6 := Lib.hid (fin HB5.out hb)
    have HK6 := Lib.hid (HK5.out.below hb)
    have HR6 := Lib.hid (HR5.out.below hb)
    have HX6 := Lib.hid hbk
    clear hb hr hbk hk
    go_wp2_with fail
    refine (HBA.out _).mono ?_
    rintro e w7 ⟨rfl, rfl⟩
    go_wp2_with fail
    refine (HDK.out _ HB6.out).mono ?_
    rintro e w7 ⟨ka2, kc2, rfl, hbk, hb⟩
    have HB7 := Lib.hid (fin HB6.out hb)
    have HK7 := Lib.hid (HK6.out.below hb)
    have HR7 := Lib.hid (HR6.out.below hb)
    have HX7 := Lib.hid (HX6.out.below hb)
    have HD7 := Lib.hid hbk
    clear hb hbk
    go_wp2_with fail
    refine (HSM.out _ _ _ _ _ _ HK7.out HD7.out).mono ?_
    rintro e w8 ⟨rfl, hb⟩
    have HB8 := Lib.hid (fin HB7.out hb)
    have HR8 := Lib.hid (HR7.out.below hb)
    have HX8 := Lib.hid (HX7.out.below hb)
    have HD8 := Lib.hid (HD7.out.below hb)
    clear hb
    go_wp2_with fail
    refine (HD1.out _ HB8.out).mono ?_
    rintro e w9 ⟨ka3, kc3, rfl, hbk, hb⟩
    have HB9 := Lib.hid (fin HB8.out hb)
    have HR9 := Lib.hid (HR8.out.below hb)
    have HX9 := Lib.hid (HX8.out.below hb)
    have HD9 := Lib.hid (HD8.out.below hb)
    have HE9 := Lib.hid hbk
    clear hb hbk
    go_wp2_with fail
    refine (HSM.out _ _ _ _ _ _ HR9.out HE9.out).mono ?_
    rintro e w10 ⟨rfl, hb⟩
    have HB10 := Lib.hid (fin HB9.out hb)
    have HX10 := Lib.hid (HX9.out.below hb)
    have HD10 := Lib.hid (HD9.out.below hb)
    clear hb
    go_wp2_with fail
    refine (HD2.out _ _ _ HB10.out HD10.out).mono ?_
    rintro e w11 ⟨ka4, kc4, rfl, hbk, hb⟩
    have HB11 := Lib.hid (fin HB10.out hb)
    have HX11 := Lib.hid (HX10.out.below hb)
    have HE11 := Lib.hid hbk
    clear hb hbk
    go_wp2_with fail
    refine (HSM.out _ _ _ _ _ _ HX11.out HE11.out).mono ?_
    rintro e w12 ⟨rfl, hb⟩
    have HB12 := Lib.hid (fin HB11.out hb)
    clear hb
    go_wp2
    go_ret
    exact ⟨rfl, HB12.out⟩
end Go.Proofs.YtpminhafljlldaaDoor

/- The law OrderKeys, walked. -/
import Derived.Test.YthbchbpjfdpkjaaGreatDoorOKeys
import Derived.Test.YthbchbpjfdpkjaaGreatDoorOZs
import Derived.Test.YthbchbpjfdpkjaaGreatDoorDNum
import Derived.Test.YthbchbpjfdpkjaaGreatDoorQBigAll
namespace Go.Proofs.YthbchbpjfdpkjaaGreatDoor
open Go.RowKit
open Q (It Ver Tm Sp Rc Dm)

/-- what Keys gives -/
def KeysOut (ad : Addr) (l : List Rc) (zs : List Int) (w' : World) (ka : Option Addr) (kn kc : Nat) (ev : Value) : Prop :=
  ((∀ z ∈ zs, InR l z) ∧ kn = zs.length ∧ ev = .nilIface ∧ Sl RTx 1 w' ka (keysOf l zs)) ∨ ((∃ z ∈ zs, ¬ InR l z) ∧ ka = none ∧ kn = 0 ∧ kc = 0 ∧ ev = errAt ad)
theorem keys_any (ad : Addr) (a q : Option Addr) (c qc : Nat) (l : List Rc) (zs : List Int) (w : World) (hR : Sl RRc 13 w a l) (hq : Sl RJ 1 w q zs) (hzl : zs.length ≤ 1000) (hE : ErrR w ad) :
    Calls Tryz.prog 11 #[.slice a l.length c, .slice q zs.length qc] w fun e w' => ∃ ka kn kc ev, e = .returned (.tuple #[.slice ka kn kc, ev]) ∧ KeysOut ad l zs w' ka kn kc ev ∧ Below w.heap.size w w' := by
  by_cases h : ∃ z ∈ zs, ¬ InR l z
  · refine (keys_bad ad a q c qc l zs w hq h hzl hE).mono ?_
    rintro e w' ⟨rfl, hb⟩
    exact ⟨_, _, _, _, rfl, .inr ⟨h, rfl, rfl, rfl, rfl⟩, hb⟩
  · have hall : ∀ z ∈ zs, InR l z := fun z hz => Classical.byContradiction fun h1 => h ⟨z, hz, h1⟩
    refine (keys_ok a q c qc l zs w hR hq hall hzl).mono ?_
    rintro e w' ⟨ka, kc, rfl, ho, hb⟩
    exact ⟨_, _, _, _, rfl, .inl ⟨hall, rfl, rfl, ho.sl (by rw [keysOf_length]; omega)⟩, hb⟩
set_option maxHeartbeats 4000000 in
set_option maxRecDepth 100000 in
theorem keysLaw (A : Nat → Addr) (a q : Option Addr) (c qc : Nat) (l : List Rc) (zs : List Int) (w : World) (hR : Sl RRc 13 w a l) (hq : InZ w q zs) (hA : Errs w A) (hE : ErrR w (A 9)) :
    Calls Tryz.prog 4 #[.slice a l.length c, .slice q zs.length qc] w fun e w' => e = .returned (.bool true) ∧ Below w.heap.size w w' := by
  have HR := Lib.hid hR
  have HQ0 := Lib.hid hq
  have HA := Lib.hid hA
  have HE := Lib.hid hE
  clear hR hq hA hE
  go_enter Tryz.func4, Tryz.ntmps4
  go_wp2_with fail
  (with_reducible refine (alive23 (A 9) _ HE.out).mono ?_)
  rintro e1 w1 ⟨rfl, hb⟩
  have HB1 := Lib.hid hb
  clear hb
  go_wp2_with fail
  (with_reducible refine (bigAll_any a c l 40 _ (HR.out.below stays_RRc HB1.out) (by omega)).mono ?_)
  rintro e1 w2 ⟨b, rfl, hq, hb⟩
  have HB2 := Lib.hid (fin HB1.out hb)
  clear hb
  cases b
  case true =>
    go_wp2
    go_ret
    exact ⟨rfl, HB2.out⟩
  have h40 := hq rfl
  clear hq
  by_cases h1 : 60 < zs.length
  · have n1 : decide ((zs.length : Int) > 60) = true := decide_eq_true (by omega)
    have n2 : decide ((60 : Int) < (zs.length : Int)) = true := decide_eq_true (by omega)
    go_wp2
    go_ret
    exact ⟨rfl, HB2.out⟩
  have HQ := Lib.hid (HQ0.out.sl (by omega))
  have n1 : decide ((zs.length : Int) > 60) = false := decide_eq_false (by omega)
  have n2 : decide ((60 : Int) < (zs.length : Int)) = false := decide_eq_false (by omega)
  go_wp2_with fail
  (with_reducible refine (keys_any (A 9) a q c qc l zs _ (HR.out.below stays_RRc HB2.out) (HQ.out.below stays_RJ HB2.out) (by omega) (HE.out.below HB2.out)).mono ?_)
  rintro e1 w3 ⟨ka, kn, kc, ev, rfl, hko, hb⟩
  have HKO := Lib.hid hko
  have HB3 := Lib.hid (fin HB2.out hb)
  clear hko hb n1 n2
  have h0 : OwnS (w3.alloc (Obj.cells #[] 9)) w3.heap.size (some ⟨w3.heap.size, 0, none⟩) 0 [] :=
    ⟨by simp [enS], .inr ⟨w3.heap.size, 0, #[], rfl, Nat.le_refl _, heap_new1 _ _, Nat.le_refl _, by unfold maxLen; omega, by simp, by simp [enS]⟩⟩
  have H0 := Lib.hid h0
  clear h0
  go_wp2
  go_loopw [7, 28] (fun s i wr => ∃ (k : Nat) (sa : Option Addr) (sc : Nat), k ≤ zs.length ∧ i = .int .i64 k ∧ s = .slice sa k sc ∧ OwnS wr w3.heap.size sa sc (keysOf l (zs.take k)) ∧ (∀ z ∈ zs.take k, InR l z) ∧ Below w3.heap.size w3 wr) (fun _ i _ => zs.length - (intOf i).toNat)
  case atStart => exact ⟨0, _, _, Nat.zero_le _, rfl, rfl, H0.out, fun z h => by simp at h, b1 _ _⟩
  case round =>
    obtain ⟨k, sa, sc, hk, rfl, rfl, hso, hin, hbr⟩ := hrel
    have HSO := Lib.hid hso
    have HIN := Lib.hid hin
    have HB := Lib.hid hbr
    have HB0 := Lib.hid (fin HB3.out hbr)
    have hbz := hbr.size
    clear hso hin hbr
    by_cases hlt : k < zs.length
    · obtain ⟨z, hz⟩ : ∃ z, zs[k]? = some z := ⟨zs[k], by simp [hlt]⟩
      obtain ⟨qb, qo, rfl, hql, hqc⟩ := (HQ.out.below stays_RJ HB0.out).cellZ hz
      have hzm := List.mem_of_getElem? hz
      by_cases hir : InR l z
      · obtain ⟨h0, hx⟩ := hir
        obtain ⟨x, rfl⟩ : ∃ x : Nat, z = x := ⟨z.toNat, by omega⟩
        have hxl : x < l.length := by omega
        have m1 : decide ((x : Int) < 0) = false := decide_eq_false (by omega)
        have m2 : decide ((x : Int) ≥ (l.length : Int)) = false := decide_eq_false (by omega)
        have m3 : decide ((l.length : Int) ≤ (x : Int)) = false := decide_eq_false (by omega)
        have m4 : decide (l.length ≤ x) = false := decide_eq_false (by omega)
        have m5 : ¬ ((l.length : Int) ≤ (x : Int)) := by omega
        have m6 : ¬ (l.length ≤ x) := by omega
        obtain ⟨r, hr⟩ : ∃ r, l[x]? = some r := ⟨l[x], by simp [hxl]⟩
        obtain ⟨bb, off, pa, la, pc, lc, da, dc, ca, cc, fa, fc, e1, hbl, ⟨t0, t1, _⟩, _⟩ := (HR.out.below stays_RRc HB0.out).cellsRc hr
        subst e1
        have HKN := Lib.hid (keysOf_next (l := l) hz)
        have HKA := Lib.hid (keyAt_nat hr)
        obtain ⟨z1, z2⟩ := HR.out.szRc hr
        obtain ⟨p1, p2⟩ := key_sizes z1 z2
        have p3 : ¬ (r.chan.size + (⟨#[47]⟩ : ByteArray).size > 9223372036854775807) := p1
        have p4 : ¬ ((r.chan ++ ⟨#[47]⟩ : ByteArray).size + r.file.size > 9223372036854775807) := p2
        have e1 : (⟨#[47]⟩ : ByteArray).size = 1 := rfl
        have p5 : ¬ (9223372036854775807 < r.chan.size + 1) := by rw [e1] at p1; exact p1
        have p7 : ¬ (9223372036854775807 < r.chan.size + 1 + r.file.size) := by rw [ByteArray.size_append, e1] at p2; exact p2
        clear e1
        have hkl : (keysOf l (zs.take k)).length = k := by rw [keysOf_length]; simp; omega
        have HKL := Lib.hid hkl
        have HZ := Lib.hid hz
        have hO2 : Own 9 1 wr w3.heap.size sa sc k (enS (keysOf l (zs.take k))) := by
          have := HSO.out
          unfold OwnS at this
          rw [HKL.out] at this; exact this
        have HO2 := Lib.hid hO2
        clear hz hr hkl hO2 hzm z1 z2
        go_wp2
        go_region_law
          (refine step_append1At Tryz.infoStr rfl rfl (.tmp 48) (.tmp 61) 31 rfl Tryz.underlying31 w3.heap.size sa k sc (enS (keysOf l (zs.take k))) rfl (HO2.out.below (((Below.refl _ _).drew).alloc (Nat.le_refl _) _)) _ (.string (keyB r)) rfl ?_ rfl (by omega) (by omega) (by simp; omega) ?_; (focus (simp [keyB]; done)); intro a3 c3 w4 hO3 hG3 hB3 hat3; have HO3 := Lib.hid hO3; have HB3 := Lib.hid hB3; clear hO3 hG3 hB3 hat3)
        all_goals
          go_wp2
          go_roundw
          case rel =>
            refine ⟨k + 1, a3, c3, by omega, by go_num, rfl, ?_, fun y hy => ?_, (HB.out.drew.alloc hbz _).trans HB3.out⟩
            · unfold OwnS
              rw [HKN.out, HKA.out, List.length_append, HKL.out]
              simpa [enS] using HO3.out
            · rw [List.take_add_one, HZ.out] at hy
              rcases List.mem_append.1 hy with h1 | h1
              · exact HIN.out y h1
              · simp at h1; subst h1; exact ⟨h0, hx⟩
          case measure => simp [intOf]; omega
      · obtain hbad : ∃ z ∈ zs, ¬ InR l z := ⟨z, hzm, hir⟩
        obtain ⟨rfl, rfl, rfl, rfl⟩ : ka = none ∧ kn = 0 ∧ kc = 0 ∧ ev = errAt (A 9) := by
          rcases HKO.out with ⟨h, _⟩ | ⟨_, h⟩
          · exact absurd (h z hzm) hir
          · exact h
        have HNE := Lib.hid (num_err A 9 wr (by omega) (HA.out.below HB0.out))
        clear hbad HKO
        have hzz : z < 0 ∨ (l.length : Int) ≤ z := by unfold InR at hir; omega
        rcases Int.lt_or_le z 0 with h0 | h0
        · have m1 : decide (z < 0) = true := decide_eq_true h0
          go_wp2_with fail
          (with_reducible refine HNE.out.mono ?_)
          rintro e1 w4 ⟨rfl, hb4⟩
          have HB4 := Lib.hid (fin HB0.out hb4)
          clear hb4
          go_wp2
          go_ret
          exact ⟨ret_bool rfl, HB4.out⟩
        · have m1 : decide (z < 0) = false := decide_eq_false (by omega)
          have m2 : decide (z ≥ (l.length : Int)) = true := decide_eq_true (by omega)
          have m3 : decide ((l.length : Int) ≤ z) = true := decide_eq_true (by omega)
          go_wp2_with fail
          (with_reducible refine HNE.out.mono ?_)
          rintro e1 w4 ⟨rfl, hb4⟩
          have HB4 := Lib.hid (fin HB0.out hb4)
          clear hb4
          go_wp2
          go_ret
          exact ⟨ret_bool rfl, HB4.out⟩
    · obtain rfl : k = zs.length := by omega
      have hin := HIN.out
      rw [List.take_length] at hin
      obtain ⟨rfl, rfl, hks⟩ : kn = zs.length ∧ ev = .nilIface ∧ Sl RTx 1 w3 ka (keysOf l zs) := by
        rcases HKO.out with ⟨_, h⟩ | ⟨⟨z, h1, h2⟩, _⟩
        · exact h
        · exact absurd (hin z h1) h2
      have hws : Sl RTx 1 wr sa (keysOf l zs) := by
        have := HSO.out.sl (by rw [keysOf_length]; simp; omega)
        rwa [List.take_length] at this
      have HST := Lib.hid (sameTexts_self ka sa zs.length kc sc (keysOf l zs) wr (keysOf_length l zs) (hks.below stays_RTx HB.out) hws)
      clear hks hws hin HKO
      go_wp2_with fail
      (with_reducible refine HST.out.mono ?_)
      rintro e1 w4 ⟨rfl, hb4⟩
      have HB4 := Lib.hid (fin HB0.out hb4)
      clear hb4
      go_wp2
      go_ret
      exact ⟨ret_bool rfl, HB4.out⟩
end Go.Proofs.YthbchbpjfdpkjaaGreatDoor

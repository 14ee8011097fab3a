/- The contracts of record.Key, order.Keys and haversacknum.SameTexts. -/
import Derived.Test.YthbchbpjfdpkjaaGreatDoorOC
import Derived.Test.YthbchbpjfdpkjaaGreatDoorQLaid
namespace Go.Proofs.YthbchbpjfdpkjaaGreatDoor
open Go.RowKit
open Q (It Ver Tm Sp Rc Dm)

theorem Tryz.infoStr : (Tryz.prog.info? 9).map (fun i => (i.zero, i.size, i.bytes)) = some (some (.string ⟨#[]⟩), 1, 16) := by kernel_rfl
/-- texts, of whatever length -/
def RTx : Rd ByteArray := fun _ us s => us = [.string s]
theorem stays_RTx : Stays RTx := fun _ _ _ _ _ h => h
def enS (l : List ByteArray) : List Value := l.map Value.string
theorem enS_length (l : List ByteArray) : (enS l).length = l.length := by simp [enS]
theorem flatS (w : World) (l : List ByteArray) : Flat RTx 1 w l (enS l) := by
  refine ⟨by simp [enS], fun i x hx => ⟨[.string x], rfl, fun j hj => ?_, rfl⟩⟩
  obtain rfl : j = 0 := by omega
  simp [enS, hx]
abbrev OwnS (w : World) (base : Nat) (a : Option Addr) (c : Nat) (l : List ByteArray) : Prop := Own 9 1 w base a c l.length (enS l)
theorem OwnS.sl {w : World} {base : Nat} {a : Option Addr} {c : Nat} {l : List ByteArray} (h : OwnS w base a c l) (hl : l.length ≤ 5864062014805) : Sl RTx 1 w a l := Own.sl h (flatS w l) hl
theorem Sl.cellS {w : World} {a : Option Addr} {xs : List ByteArray} (h : Sl RTx 1 w a xs) {i : Nat} {x : ByteArray} (hx : xs[i]? = some x) : ∃ b off, a = some ⟨b, off, none⟩ ∧ b < w.heap.size ∧ w.cell? ⟨b, off + i, none⟩ = some (.string x) := by
  obtain ⟨b, off, e, hlt, hc⟩ := h.addr (by have := (List.getElem?_eq_some_iff.1 hx).1; omega)
  obtain ⟨us, u1, u2, u3⟩ := hc i x hx
  have c0 := u2 0 (by omega)
  rw [u3] at c0
  exact ⟨b, off, e, hlt, by simpa using c0⟩
set_option maxHeartbeats 1000000 in
theorem sameTexts_self (a b : Option Addr) (n c d : Nat) (xs : List ByteArray) (w : World) (hn : xs.length = n) (h1 : Sl RTx 1 w a xs) (h2 : Sl RTx 1 w b xs) :
    Calls Tryz.prog 13 #[.slice a n c, .slice b n d] w fun e w' => e = .returned (.bool true) ∧ Below w.heap.size w w' := by
  subst hn
  have hl := h1.len
  have H1 := Lib.hid h1
  have H2 := Lib.hid h2
  have n1 : ((xs.length : Int) != (xs.length : Int)) = false := by simp
  clear h1 h2
  go_enter Tryz.func13, Tryz.ntmps13
  go_wp2
  clear n1
  go_loopw [5, 13] (fun _ i wr => ∃ k : Nat, k ≤ xs.length ∧ i = .int .i64 k ∧ Below w.heap.size w wr) (fun _ i _ => xs.length - (intOf i).toNat)
  case atStart => exact ⟨0, by omega, rfl, Below.refl _ _⟩
  case round =>
    obtain ⟨k, hk, rfl, hbr⟩ := hrel
    by_cases hlt : k < xs.length
    · obtain ⟨x, hx⟩ : ∃ x, xs[k]? = some x := ⟨xs[k], by simp [hlt]⟩
      obtain ⟨b1, o1, rfl, hb1, c1⟩ := (H1.out.below stays_RTx hbr).cellS hx
      obtain ⟨b2, o2, rfl, hb2, c2⟩ := (H2.out.below stays_RTx hbr).cellS hx
      have HB := Lib.hid hbr
      clear hx hbr
      have nx : (x.toList == x.toList) = true := by simp
      go_wp2
      go_quiet (fail)
      go_wp2
      go_roundw
      case rel => exact ⟨k + 1, by omega, by go_num, ⟨HB.out.1, HB.out.2, HB.out.3, HB.out.4, HB.out.5⟩⟩
      case measure => simp [intOf]; omega
    · go_wp2
      go_ret
      exact ⟨rfl, hbr⟩
/-- a record's key -/
def keyB (r : Rc) : ByteArray := (r.chan ++ ⟨#[47]⟩) ++ r.file
theorem key_sizes {r : Rc} (h1 : SzS r.chan) (h2 : SzS r.file) : ¬ (9223372036854775807 < r.chan.size + (⟨#[47]⟩ : ByteArray).size) ∧ ¬ (9223372036854775807 < (r.chan ++ ⟨#[47]⟩ : ByteArray).size + r.file.size) := by
  unfold SzS at h1 h2
  have e : (⟨#[47]⟩ : ByteArray).size = 1 := rfl
  rw [ByteArray.size_append, e]
  omega
set_option maxHeartbeats 1000000 in
theorem key_any (r : Rc) (v4 v5 v6 v7 v8 v9 v10 v11 v12 v2 v3 : Value) (w : World) (h1 : SzS r.chan) (h2 : SzS r.file) :
    Calls Tryz.prog 26 #[.agg #[.string r.chan, .string r.file, v2, v3, v4, v5, v6, v7, v8, v9, v10, v11, v12]] w fun e w' => e = .returned (.string (keyB r)) ∧ Below w.heap.size w w' := by
  obtain ⟨n1, n2⟩ := key_sizes h1 h2
  have n3 : ¬ (r.chan.size + (⟨#[47]⟩ : ByteArray).size > 9223372036854775807) := n1
  have n4 : ¬ ((r.chan ++ ⟨#[47]⟩ : ByteArray).size + r.file.size > 9223372036854775807) := n2
  go_enter Tryz.func26, Tryz.ntmps26
  go_wp2
  go_ret
  exact ⟨rfl, b1 _ _⟩
theorem Sl.szRc {w : World} {a : Option Addr} {l : List Rc} (h : Sl RRc 13 w a l) {i : Nat} {r : Rc} (hx : l[i]? = some r) : SzS r.chan ∧ SzS r.file := by
  obtain ⟨b, off, e, hlt, hc⟩ := h.addr (by have := (List.getElem?_eq_some_iff.1 hx).1; omega)
  obtain ⟨us, u1, u2, e, p, l, d, c, f, h0, h1, h2, _⟩ := hc i r hx
  exact ⟨h1, h2⟩
/-- the key at a place -/
def keyAt (l : List Rc) (z : Int) : ByteArray := match l[z.toNat]? with | some r => keyB r | none => ⟨#[]⟩
theorem keyAt_nat {l : List Rc} {x : Nat} {r : Rc} (h : l[x]? = some r) : keyAt l (x : Int) = keyB r := by
  unfold keyAt; rw [Int.toNat_natCast, h]
def keysOf (l : List Rc) (zs : List Int) : List ByteArray := zs.map (keyAt l)
theorem keysOf_next {l : List Rc} {zs : List Int} {k : Nat} {z : Int} (h : zs[k]? = some z) : keysOf l (zs.take (k + 1)) = keysOf l (zs.take k) ++ [keyAt l z] := by
  unfold keysOf; rw [List.take_add_one, h]; simp
theorem keysOf_length (l : List Rc) (zs : List Int) : (keysOf l zs).length = zs.length := by simp [keysOf]
/-- a place of a record -/
def InR (l : List Rc) (z : Int) : Prop := 0 ≤ z ∧ z < (l.length : Int)
set_option maxHeartbeats 2000000 in
set_option maxRecDepth 100000 in
theorem keys_bad (ad : Addr) (a q : Option Addr) (c qc : Nat) (l : List Rc) (zs : List Int) (w : World) (hq : Sl RJ 1 w q zs) (hz : ∃ z ∈ zs, ¬ InR l z) (hzl : zs.length ≤ 1000) (hE : ErrR w ad) :
    Calls Tryz.prog 11 #[.slice a l.length c, .slice q zs.length qc] w fun e w' => e = .returned (.tuple #[.slice none 0 0, errAt ad]) ∧ Below w.heap.size w w' := by
  have HQ := Lib.hid hq
  have HZ := Lib.hid hz
  have hE1 := hE
  unfold ErrR at hE1
  clear hq hz hE
  go_enter Tryz.func11, Tryz.ntmps11
  go_wp2
  go_loop [13] (fun i => ∃ k : Nat, k ≤ zs.length ∧ i = .int .i64 k ∧ ∀ z ∈ zs.take k, InR l z) (fun i => zs.length - (intOf i).toNat)
  case atStart => exact ⟨0, Nat.zero_le _, rfl, fun z h => by simp at h⟩
  case round =>
    obtain ⟨k, hk, rfl, hin⟩ := hrel
    have HIN := Lib.hid hin
    clear hin
    by_cases hlt : k < zs.length
    · obtain ⟨z, hz⟩ : ∃ z, zs[k]? = some z := ⟨zs[k], by simp [hlt]⟩
      obtain ⟨qb, qo, rfl, hql, hqc⟩ := HQ.out.cellZ hz
      have HZ1 := Lib.hid hz
      clear hz
      rcases Int.lt_or_le z 0 with h0 | h0
      · have n1 : decide (z < 0) = true := decide_eq_true h0
        go_wp2
        go_quiet (fail)
        go_wp2
        go_ret2
        exact ⟨rfl, bDr (Below.refl _ _)⟩
      · have n1 : decide (z < 0) = false := decide_eq_false (by omega)
        by_cases hx : z < (l.length : Int)
        · have n2 : decide (z ≥ (l.length : Int)) = false := decide_eq_false (by omega)
          have n3 : decide ((l.length : Int) ≤ z) = false := decide_eq_false (by omega)
          go_wp2
          go_round
          case rel =>
            refine ⟨k + 1, by omega, by go_num, fun y hy => ?_⟩
            rw [List.take_add_one, HZ1.out] at hy
            rcases List.mem_append.1 hy with h1 | h1
            · exact HIN.out y h1
            · simp at h1; subst h1; exact ⟨h0, hx⟩
          case measure => simp [intOf]; omega
        · have n2 : decide (z ≥ (l.length : Int)) = true := decide_eq_true (by omega)
          have n3 : decide ((l.length : Int) ≤ z) = true := decide_eq_true (by omega)
          go_wp2
          go_quiet (fail)
          go_wp2
          go_ret2
          exact ⟨rfl, bDr (Below.refl _ _)⟩
    · exfalso
      obtain ⟨z, h1, h2⟩ := HZ.out
      refine h2 (HIN.out z ?_)
      rw [List.take_of_length_le (by omega)]; exact h1
set_option maxHeartbeats 2000000 in
set_option maxRecDepth 100000 in
theorem keys_ok (a q : Option Addr) (c qc : Nat) (l : List Rc) (zs : List Int) (w : World) (hR : Sl RRc 13 w a l) (hq : Sl RJ 1 w q zs) (hz : ∀ z ∈ zs, InR l z) (hzl : zs.length ≤ 1000) :
    Calls Tryz.prog 11 #[.slice a l.length c, .slice q zs.length qc] w fun e w' => ∃ ka kc, e = .returned (.tuple #[.slice ka zs.length kc, .nilIface]) ∧ OwnS w' w.heap.size ka kc (keysOf l zs) ∧ Below w.heap.size w w' := by
  have HR := Lib.hid hR
  have HQ := Lib.hid hq
  have HZ := Lib.hid hz
  obtain ⟨i0, hi, hz0, hz1, hz2⟩ := info_parts Tryz.infoStr
  clear hR hq hz
  go_enter Tryz.func11, Tryz.ntmps11
  go_wp2
  go_loop [13] (fun i => ∃ k : Nat, k ≤ zs.length ∧ i = .int .i64 k) (fun i => zs.length - (intOf i).toNat)
  case atStart => exact ⟨0, Nat.zero_le _, rfl⟩
  case round =>
    obtain ⟨k, hk, rfl⟩ := hrel
    by_cases hlt : k < zs.length
    · obtain ⟨z, hz⟩ : ∃ z, zs[k]? = some z := ⟨zs[k], by simp [hlt]⟩
      obtain ⟨qb, qo, rfl, hql, hqc⟩ := HQ.out.cellZ hz
      obtain ⟨h0, hx⟩ := HZ.out z (List.mem_of_getElem? hz)
      have n1 : decide (z < 0) = false := decide_eq_false (by omega)
      have n2 : decide (z ≥ (l.length : Int)) = false := decide_eq_false (by omega)
      have n3 : decide ((l.length : Int) ≤ z) = false := decide_eq_false (by omega)
      clear hz
      go_wp2
      go_round
      case rel => exact ⟨k + 1, by omega, by go_num⟩
      case measure => simp [intOf]; omega
    · obtain rfl : k = zs.length := by omega
      go_wp2_with (at_make; refine wpList_make_own w rfl _ _ 31 rfl w.heap.size 9 i0 (.string ⟨#[]⟩) 1 Tryz.underlying31 hi hz0 hz1 .i64 .i64 _ zs.length rfl rfl (by omega) (by rw [hz2]; omega) (by unfold maxLen; omega) (Nat.le_refl _) ?_; intro w1 hown1 hg1; have hO1 : OwnS w1 w.heap.size (some ⟨w.heap.size, 0, none⟩) zs.length [] := hown1; have hb1 : Below w.heap.size w w1 := ⟨hg1.os, hg1.tape, hg1.output, hg1.size, fun k hk => hg1.block k hk (by simp)⟩; have HO1 := Lib.hid hO1; have HB1 := Lib.hid hb1; clear hown1 hg1 hO1 hb1)
      clear hi hz0 hz1 hz2
      go_loopw [8, 32] (fun s i wr => ∃ (k : Nat) (sa : Option Addr) (sc : Nat), k ≤ zs.length ∧ i = .int .i64 k ∧ s = .slice sa k sc ∧ OwnS wr w.heap.size sa sc (keysOf l (zs.take k)) ∧ Below w.heap.size w wr) (fun _ i _ => zs.length - (intOf i).toNat)
      case atStart => exact ⟨0, _, _, Nat.zero_le _, rfl, rfl, HO1.out, HB1.out⟩
      case round =>
        obtain ⟨k, sa, sc, hk, rfl, rfl, hso, hbr⟩ := hrel
        have HSO := Lib.hid hso
        have HB := Lib.hid hbr
        have hbz := hbr.size
        clear hso hbr
        by_cases hlt : k < zs.length
        · obtain ⟨z, hz⟩ : ∃ z, zs[k]? = some z := ⟨zs[k], by simp [hlt]⟩
          obtain ⟨h0, hx⟩ := HZ.out z (List.mem_of_getElem? hz)
          obtain ⟨x, rfl⟩ : ∃ x : Nat, z = x := ⟨z.toNat, by omega⟩
          have hxl : x < l.length := by omega
          obtain ⟨qb, qo, rfl, hql, hqc⟩ := (HQ.out.below stays_RJ HB.out).cellZ hz
          obtain ⟨r, hr⟩ : ∃ r, l[x]? = some r := ⟨l[x], by simp [hxl]⟩
          obtain ⟨bb, off, pa, la, pc, lc, da, dc, ca, cc, fa, fc, e1, hbl, ⟨t0, t1, t2, t3, t4, t5, t6, t7, t8, t9, t10, t11, t12⟩, _⟩ := (HR.out.below stays_RRc HB.out).cellsRc hr
          subst e1
          have HKN := Lib.hid (keysOf_next (l := l) hz)
          have HKA := Lib.hid (keyAt_nat hr)
          have HSZ := Lib.hid (HR.out.szRc hr)
          have hkl : (keysOf l (zs.take k)).length = k := by rw [keysOf_length]; simp; omega
          have HKL := Lib.hid hkl
          clear hz hr hkl
          go_wp2_with fail
          (with_reducible refine (key_any r _ _ _ _ _ _ _ _ _ _ _ _ HSZ.out.1 HSZ.out.2).mono ?_)
          rintro e w2 ⟨rfl, hb2⟩
          have hO2 : Own 9 1 w2 w.heap.size sa sc k (enS (keysOf l (zs.take k))) := by
            have := HSO.out.below hb2
            unfold OwnS at this
            rw [HKL.out] at this; exact this
          have HO2 := Lib.hid hO2
          have HB2 := Lib.hid (HB.out.trans (hb2.mono hbz))
          have hz2 := hb2.size
          clear hb2 hO2
          go_wp2_with (at_builtin; refine wpList_append_flatAt (R := RV) Tryz.infoStr rfl (by decide) rfl (.tmp 36) (.tmp 42) 31 rfl Tryz.underlying31 w.heap.size _ _ _ _ rfl (HO2.out.below (b1 _ _)) _ _ _ [.string (keyB r)] rfl rfl (oneNV (by simp) (.string (keyB r)) rfl _) (RV.ones _) (by omega) (by omega) (by simp; omega) ?_; intro a3 c3 w3 cells1 hO3 hF3 hG3 hB3 hat3; have hE := hF3.rv; subst hE; have HO3 := Lib.hid hO3; have HB3 := Lib.hid hB3; clear hO3 hF3 hG3 hB3 hat3)
          go_roundw
          case rel =>
            refine ⟨k + 1, a3, c3, by omega, by go_num, rfl, ?_, ((HB2.out.alloc (by omega) _).trans HB3.out)⟩
            unfold OwnS
            rw [HKN.out, HKA.out, List.length_append, HKL.out]
            simpa [enS] using HO3.out
          case measure => simp [intOf]; omega
        · obtain rfl : k = zs.length := by omega
          go_wp2
          go_ret2
          refine ⟨sa, sc, rfl, ?_, HB.out⟩
          have := HSO.out
          rwa [List.take_length] at this
end Go.Proofs.YthbchbpjfdpkjaaGreatDoor

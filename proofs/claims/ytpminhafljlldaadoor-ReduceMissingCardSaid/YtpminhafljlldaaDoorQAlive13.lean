/- haversacklaw13.alive and big. -/
import Derived.Test.YtpminhafljlldaaDoorQRed2
import Derived.Test.YtpminhafljlldaaDoorQAll
namespace Go.Proofs.YtpminhafljlldaaDoor
open Go.RowKit
open Q (It Ver Tm Sp Rc Dm)

/-- a new slice of the free spec of a name -/
def NeedOf (nm : ByteArray) (w : World) (e : Ending) (w' : World) : Prop := ∃ sa, e = .returned (.slice (some sa) 1 1) ∧ Sl RSp 5 w' (some sa) [freeSp nm] ∧ Below w.heap.size w w'
theorem need_any (nm : ByteArray) (hnm : SzS nm) (w : World) : Calls Tryd.prog 52 #[.string nm] w (NeedOf nm w) := by
  have HN := Lib.hid hnm
  clear hnm
  go_enter Tryd.func52, Tryd.ntmps52
  go_wp2_with fail
  refine (free_any _ _).mono ?_
  rintro e w2 ⟨ra, rfl, hsp, hb2⟩
  have hra : (1 : Nat) ≤ 1 ∧ (ra = none → 1 = 0) := by
    refine ⟨Nat.le_refl _, fun e => ?_⟩
    obtain ⟨b, off, e2, _⟩ := hsp.rows.addr (by simp [freeSp])
    rw [e] at e2; cases e2
  have hsl := sl_made (R := RSp) (k := 5) w2 [freeSp nm] [[.string ⟨#[]⟩, .string nm, .slice ra 1 1, .string ⟨#[]⟩, .int .i64 (-1)]] 35 _ rfl _ rfl rfl (by simp) (by
    intro i x us hx hu
    match i, hx, hu with
    | 0, hx, hu =>
      simp at hx hu; subst hx hu
      exact ⟨rfl, _, rfl, Nat.zero_le _, HN.out, Nat.zero_le _, (by show -9223372036854775808 ≤ (-1 : Int) ∧ (-1 : Int) ≤ 9223372036854775807; omega), ⟨ra, 1, rfl, hra, (hsp.below (b1 _ _)).rows⟩⟩
    | n + 1, hx, hu => simp at hx) (by simp)
  have HSL := Lib.hid hsl
  have HB := Lib.hid (fin hb2 (b1 w2 (Obj.cells #[.string ⟨#[]⟩, .string nm, .slice ra 1 1, .string ⟨#[]⟩, .int .i64 (-1)] 35)))
  clear hsl hra hsp hb2
  go_wp2
  go_ret
  exact ⟨_, rfl, HSL.out, HB.out⟩
def nmB : ByteArray := ⟨#[98]⟩
def nmC : ByteArray := ⟨#[99]⟩
theorem szB : SzS nmB := by unfold SzS; decide
theorem szC : SzS nmC := by unfold SzS; decide
def l13 (ds : List Sp) : List Rc := [rcN nmA 0 [freeSp nmB], rcN nmB 0 ds]
theorem tlA : nmA.toList = [97] := by unfold nmA; rw [ByteArray.toList_eq]
theorem tlB : nmB.toList = [98] := by unfold nmB; rw [ByteArray.toList_eq]
theorem tlC : nmC.toList = [99] := by unfold nmC; rw [ByteArray.toList_eq]
theorem kept1 {k : List Bool} (h : R.Kept Rc.deps Q.mt (l13 [freeSp nmC]) [true, true] k) : k = [false, false] := by
  have h1 : ¬ R.On k 1 := fun h1 => by
    obtain ⟨j, q, hj, hq, hm⟩ := h.whole 1 (rcN nmB 0 [freeSp nmC]) h1 rfl (freeSp nmC) (by simp [rcN])
    rw [mt_free, tlC] at hm
    have : q = rcN nmA 0 [freeSp nmB] ∨ q = rcN nmB 0 [freeSp nmC] := by
      have := List.mem_of_getElem? hq; simpa [l13] using this
    rcases this with rfl | rfl <;> simp [rcN, tlA, tlB] at hm
  have h0 : ¬ R.On k 0 := fun h0 => by
    obtain ⟨j, q, hj, hq, hm⟩ := h.whole 0 (rcN nmA 0 [freeSp nmB]) h0 rfl (freeSp nmB) (by simp [rcN])
    rw [mt_free, tlB] at hm
    match j, hq with
    | 0, hq => simp [l13] at hq; subst hq; simp [rcN, tlA] at hm
    | 1, hq => exact h1 hj
  have hl := h.len
  match k, hl with
  | [x, y], _ =>
    have e0 : x = false := by cases x; rfl; exact absurd rfl h0
    have e1 : y = false := by cases y; rfl; exact absurd rfl h1
    rw [e0, e1]
theorem kept2 {k : List Bool} (h : R.Kept Rc.deps Q.mt (l13 []) [true, true] k) : k = [true, true] := by
  have hs := h.most [true, true] (R.Sub.refl _) (fun i r hi hr s hs => by
    match i, hr with
    | 0, hr =>
      simp [l13] at hr; subst hr
      simp [rcN] at hs; subst hs
      exact ⟨1, rcN nmB 0 [], rfl, rfl, by rw [mt_free]; simp [rcN]⟩
    | 1, hr => simp [l13] at hr; subst hr; simp [rcN] at hs)
  have h0 := hs 0 rfl
  have h1 := hs 1 rfl
  have hl := h.len
  match k, hl with
  | [x, y], _ =>
    have e0 : x = true := by simpa [R.On] using h0
    have e1 : y = true := by simpa [R.On] using h1
    rw [e0, e1]
theorem i64_0 : I64 0 := by unfold I64; omega
def rcVals (nm : ByteArray) (d : Value) : List Value := [.string ⟨#[]⟩, .string ⟨#[]⟩, .string nm, .string ⟨#[]⟩, .int .i64 0, .slice none 0 0, .slice none 0 0, .string ⟨#[]⟩, .int .i64 0, .int .i64 0, d, .slice none 0 0, .slice none 0 0]
theorem recs13 (W : World) (n : Nat) (hn : W.heap.size = n) (ds : List Sp) (d1 d2 : Value) (h1 : RS RSp 5 W [d1] [freeSp nmB]) (h2 : RS RSp 5 W [d2] ds) (t : TypeId) (cs : Array Value) (hcs : cs = (rcVals nmA d1 ++ rcVals nmB d2).toArray) : Sl RRc 13 (W.alloc (.cells cs t)) (some ⟨n, 0, none⟩) (l13 ds) := by
  refine sl_made (R := RRc) (k := 13) W (l13 ds) [rcVals nmA d1, rcVals nmB d2] t n hn cs (by rw [hcs]; simp) rfl (by simp [l13]) ?_ (by simp [rcVals])
  intro i x us hx hu
  match i, hx, hu with
  | 0, hx, hu => simp [l13] at hx hu; subst hx hu; exact ⟨rfl, rrc _ _ szA 0 i64_0 _ _ (stays_RS stays_RSp _ _ _ _ (b1 _ _) h1)⟩
  | 1, hx, hu => simp [l13] at hx hu; subst hx hu; exact ⟨rfl, rrc _ _ szB 0 i64_0 _ _ (stays_RS stays_RSp _ _ _ _ (b1 _ _) h2)⟩
  | n + 2, hx, hu => simp [l13] at hx
theorem rsOne {w : World} {sa : Addr} {s : Sp} (h : Sl RSp 5 w (some sa) [s]) : RS RSp 5 w [.slice (some sa) 1 1] [s] := ⟨_, 1, rfl, ⟨Nat.le_refl _, fun e => by cases e⟩, h⟩
set_option maxHeartbeats 2000000 in
set_option maxRecDepth 100000 in
theorem alive13 (ad : Addr) (w : World) (hE : ErrR w ad) :
    Calls Tryd.prog 21 #[] w fun e w' => e = .returned (.bool true) ∧ Below w.heap.size w w' := by
  have HE := Lib.hid hE
  clear hE
  go_enter Tryd.func21, Tryd.ntmps21
  go_wp2_with fail
  refine (need_any nmB szB _).mono ?_
  rintro e w1 ⟨s1, rfl, hs1, hb1⟩
  have HS1 := Lib.hid hs1
  have HB1 := Lib.hid hb1
  clear hs1 hb1
  go_wp2_with fail
  refine (need_any nmC szC _).mono ?_
  rintro e w2 ⟨s2, rfl, hs2, hb2⟩
  have HR2 := Lib.hid (fun t => recs13 w2 _ rfl [freeSp nmC] _ _ (rsOne (HS1.out.below stays_RSp hb2)) (rsOne hs2) t _ rfl)
  have HB2 := Lib.hid (fin HB1.out hb2)
  clear hs2 hb2
  go_wp2_with fail
  have hb9 : ∀ o o', Below w2.heap.size w2 ((w2.alloc o).alloc o') := fun o o' => (b1 _ _).alloc (by simp) o'
  refine (keep_ok ad (some ⟨w2.heap.size, 0, none⟩) (some ⟨w2.heap.size + 1, 0, none⟩) 2 2 (l13 [freeSp nmC]) [true, true] _ ⟨(HR2.out _).below stays_RRc (b1 _ _), bools_made _ [true, true] _ _ (by simp) _ rfl (by simp)⟩ rfl (by simp [l13]) ((HE.out.below HB2.out).below (hb9 _ _))).mono ?_
  rintro e w3 ⟨k, ka, kc, rfl, hk, hB, hb⟩
  obtain rfl := kept1 hk
  have HK3 := Lib.hid hB
  have HB3 := Lib.hid (fin HB2.out (fin (hb9 _ _) hb))
  clear hk hB hb hb9 HR2
  go_wp2_with fail
  refine (need_any nmB szB _).mono ?_
  rintro e w4 ⟨s4, rfl, hs4, hb4⟩
  have HR4 := Lib.hid (fun t => recs13 w4 _ rfl [] _ _ (rsOne hs4) nilS.1 t _ rfl)
  have HB4 := Lib.hid (fin HB3.out hb4)
  have HK4 := Lib.hid (HK3.out.below hb4)
  clear hs4 hb4
  go_wp2_with fail
  have hb9 : ∀ o o', Below w4.heap.size w4 ((w4.alloc o).alloc o') := fun o o' => (b1 _ _).alloc (by simp) o'
  refine (keep_ok ad (some ⟨w4.heap.size, 0, none⟩) (some ⟨w4.heap.size + 1, 0, none⟩) 2 2 (l13 []) [true, true] _ ⟨(HR4.out _).below stays_RRc (b1 _ _), bools_made _ [true, true] _ _ (by simp) _ rfl (by simp)⟩ rfl (by simp [l13]) ((HE.out.below HB4.out).below (hb9 _ _))).mono ?_
  rintro e w5 ⟨k, kb, kd, rfl, hk, hB, hb⟩
  obtain rfl := kept2 hk
  have HK5 := Lib.hid hB
  have HB5 := Lib.hid (fin HB4.out (fin (hb9 _ _) hb))
  have HK6 := Lib.hid (HK4.out.below (fin (hb9 _ _) hb))
  clear hk hB hb hb9 HR4
  go_wp2_with fail
  refine (sameBools_any ka (some ⟨w5.heap.size, 0, none⟩) kc 2 [false, false] [false, false] _ (HK6.out.below (b1 _ _)) (bools_made _ [false, false] _ _ rfl _ rfl (by simp))).mono ?_
  rintro e w6 ⟨rfl, hb⟩
  have HB6 := Lib.hid (fin HB5.out (fin (b1 _ _) hb))
  have HK7 := Lib.hid (HK5.out.below (fin (b1 _ _) hb))
  clear hb
  rw [show Q.eqB [false, false] [false, false] = true from rfl]
  go_wp2_with fail
  refine (sameBools_any kb (some ⟨w6.heap.size, 0, none⟩) kd 2 [true, true] [true, true] _ (HK7.out.below (b1 _ _)) (bools_made _ [true, true] _ _ rfl _ rfl (by simp))).mono ?_
  rintro e w7 ⟨rfl, hb⟩
  have HB7 := Lib.hid (fin HB6.out (fin (b1 _ _) hb))
  clear hb
  rw [show Q.eqB [true, true] [true, true] = true from rfl]
  go_wp2
  go_ret
  exact ⟨rfl, HB7.out⟩
set_option maxHeartbeats 1000000 in
theorem bigS_any (da : Option Addr) (dc : Nat) (ds : List Sp) (w : World) (hD : Sl RSp 5 w da ds) :
    Calls Tryd.prog 22 #[.slice da ds.length dc] w (BigPost ds.length 20 w) := by
  have HD := Lib.hid hD
  have hl := hD.len
  clear hD
  by_cases h1 : 20 < ds.length
  · have d1 : decide ((20 : Int) < (ds.length : Int)) = true := by simp; omega
    go_enter Tryd.func22, Tryd.ntmps22
    go_wp2
    go_ret
    exact ⟨_, rfl, (fun h => by cases h), Below.refl _ _⟩
  have d1 : decide ((20 : Int) < (ds.length : Int)) = false := by simp; omega
  go_enter Tryd.func22, Tryd.ntmps22
  go_wp2
  clear d1
  go_loopw [4, 10] (fun _ i wr => ∃ k : Nat, k ≤ ds.length ∧ i = .int .i64 k ∧ Below w.heap.size w wr) (fun _ i _ => ds.length - (intOf i).toNat)
  case atStart => exact ⟨0, by omega, rfl, Below.refl _ _⟩
  case round =>
    obtain ⟨k, hk, rfl, hbr⟩ := hrel
    have HB := Lib.hid hbr
    clear hbr
    by_cases hlt : k < ds.length
    · obtain ⟨s, hx⟩ : ∃ x, ds[k]? = some x := ⟨ds[k], by simp [hlt]⟩
      obtain ⟨bb, off, ra, rc, rfl, hbl, ⟨t0, t1, t2, t3, t4⟩, hat⟩ := (HD.out.below stays_RSp HB.out).cellsSp hx
      have HA := Lib.hid hat
      clear hx hat
      go_wp2_with fail
      (with_reducible refine (big09_any s ra rc _ (HA.out.below (b1 _ _))).mono ?_)
      rintro e w5 ⟨q, rfl, hb⟩
      have HB5 := Lib.hid (fin (HB.out.alloc HB.out.size _) hb)
      clear hb
      cases q
      · go_wp2
        go_roundw
        case rel => exact ⟨k + 1, by omega, by go_num, HB5.out⟩
        case measure => simp [intOf]; omega
      · go_wp2
        go_ret
        exact ⟨_, rfl, (fun h => by cases h), HB5.out⟩
    · go_wp2
      go_ret
      exact ⟨_, rfl, (fun _ => by omega), HB.out⟩
end Go.Proofs.YtpminhafljlldaaDoor

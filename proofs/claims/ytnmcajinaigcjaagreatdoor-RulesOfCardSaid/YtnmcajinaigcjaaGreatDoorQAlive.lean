/- haversacklaw19.alive: the chapter's example holds. -/
import Derived.Test.YtnmcajinaigcjaaGreatDoorQValid
import Derived.Test.YtnmcajinaigcjaaGreatDoorQFree
import Derived.Test.YtnmcajinaigcjaaGreatDoorQBools
import Derived.Test.YtnmcajinaigcjaaGreatDoorQBig
import Derived.Test.YtnmcajinaigcjaaGreatDoorQMade
namespace Go.Proofs.YtnmcajinaigcjaaGreatDoor
open Go.RowKit
open Q (It Ver Tm Sp Rc Dm)

def nmA : ByteArray := ⟨#[97]⟩
theorem szA : SzS nmA := by unfold SzS; decide
def l19 : List Rc := [rcN nmA 1 [], rcN nmA 2 []]
def d19 : Dm := ⟨1, freeSp nmA⟩
theorem mtA (n : Int) : Q.mt (freeSp nmA) (rcN nmA n []) = true := by rw [mt_free]; simp [rcN]
theorem v1 : Q.valid l19 [true, true] [true, false] [d19] = true := by
  simp [Q.valid, l19, d19, Q.okAt, List.range_succ, Q.fits, rcN, Q.holds, Q.some_]
  exact mtA 1
theorem v2 : Q.valid l19 [true, true] [true, true] [d19] = false := by
  simp [Q.valid, l19, d19, Q.okAt, List.range_succ, Q.fits, rcN, Q.holds, Q.some_]
theorem v3 : Q.valid l19 [true, true] [false, false] [d19] = false := by
  simp [Q.valid, l19, d19, Q.okAt, List.range_succ, Q.fits, rcN, Q.holds, Q.some_]
theorem vcall (ad : Addr) (W : World) (n : Nat) (a o ra : Option Addr) (x y : Bool) (hn : W.heap.size = n) (hR : Sl RRc 13 W a l19) (hO : Bools W o [true, true]) (hS : SpAt W (freeSp nmA) ra 1) (hc : (1 : Nat) ≤ 1 ∧ (ra = none → 1 = 0)) (hE : ErrR W ad) :
    Calls Tryz.prog 38 #[.slice a 2 2, .slice o 2 2, .slice (some ⟨n, 0, none⟩) 2 2, .slice (some ⟨n + 1, 0, none⟩) 1 1] ((W.alloc (Obj.cells #[.bool x, .bool y] 4)).alloc (Obj.cells #[.int .i64 1, .string ⟨#[]⟩, .string ⟨#[97]⟩, .slice ra 1 1, .string ⟨#[]⟩, .int .i64 (-1)] 55)) fun e w' => e = .returned (.bool (Q.valid l19 [true, true] [x, y] [d19])) ∧ Below W.heap.size W w' := by
  have hb : ∀ o o', Below W.heap.size W ((W.alloc o).alloc o') := fun o o' => (b1 _ _).alloc (by simp) o'
  refine rel (hb _ _) (valid_any ad a (some ⟨n, 0, none⟩) o (some ⟨n + 1, 0, none⟩) 2 2 2 1 l19 [true, true] [x, y] [d19] _ ⟨hR.below stays_RRc (hb _ _), ?_⟩ (hO.below (hb _ _)) ?_ (hE.below (hb _ _)))
  · exact (bools_made W [x, y] 4 n hn _ rfl (by simp)).below (b1 _ _)
  · refine sl_made (R := RDm) (k := 6) _ [d19] [[.int .i64 1, .string ⟨#[]⟩, .string ⟨#[97]⟩, .slice ra 1 1, .string ⟨#[]⟩, .int .i64 (-1)]] 55 _ (by simp [hn]) _ rfl rfl (by simp) ?_ (by simp)
    intro i x us hx hu
    match i, hx, hu with
    | 0, hx, hu =>
      simp at hx hu; subst hx hu
      exact ⟨rfl, _, rfl, (by show -9223372036854775808 ≤ (1 : Int) ∧ (1 : Int) ≤ 9223372036854775807; omega), _, rfl, Nat.zero_le _, szA, Nat.zero_le _, (by show -9223372036854775808 ≤ (-1 : Int) ∧ (-1 : Int) ≤ 9223372036854775807; omega), ⟨ra, 1, rfl, hc, (hS.below (hb _ _)).rows⟩⟩
    | n + 1, hx, hu => simp at hx
set_option maxHeartbeats 2000000 in
set_option maxRecDepth 100000 in
theorem alive19 (ad : Addr) (w : World) (hE : ErrR w ad) :
    Calls Tryz.prog 15 #[] w fun e w' => e = .returned (.bool true) ∧ Below w.heap.size w w' := by
  have HE := Lib.hid hE
  clear hE
  go_enter Tryz.func15, Tryz.ntmps15
  go_wp2_with fail
  refine (free_any _ _).mono ?_
  rintro e w2 ⟨ra, rfl, hsp, hb2⟩
  have hb2' := fin (b1 _ _) hb2
  have HSP := Lib.hid hsp
  have HB2 := Lib.hid hb2'
  have HR2 := Lib.hid ((sl_made (R := RRc) (k := 13) w l19 [[.string ⟨#[]⟩, .string ⟨#[]⟩, .string nmA, .string ⟨#[]⟩, .int .i64 0, .slice none 0 0, .slice none 0 0, .string ⟨#[]⟩, .int .i64 1, .int .i64 0, .slice none 0 0, .slice none 0 0, .slice none 0 0], [.string ⟨#[]⟩, .string ⟨#[]⟩, .string nmA, .string ⟨#[]⟩, .int .i64 0, .slice none 0 0, .slice none 0 0, .string ⟨#[]⟩, .int .i64 2, .int .i64 0, .slice none 0 0, .slice none 0 0, .slice none 0 0]] 69 _ rfl _ rfl rfl (by decide) (by
    intro i x us hx hu
    match i, hx, hu with
    | 0, hx, hu => simp [l19] at hx hu; subst hx hu; exact ⟨rfl, rrc _ _ szA 1 (by show -9223372036854775808 ≤ (1 : Int) ∧ (1 : Int) ≤ 9223372036854775807; omega) [] _ nilS.1⟩
    | 1, hx, hu => simp [l19] at hx hu; subst hx hu; exact ⟨rfl, rrc _ _ szA 2 (by show -9223372036854775808 ≤ (2 : Int) ∧ (2 : Int) ≤ 9223372036854775807; omega) [] _ nilS.1⟩
    | n + 2, hx, hu => simp [l19] at hx) (by simp)).below stays_RRc hb2)
  have hz2 : w.heap.size < w2.heap.size := Nat.lt_of_lt_of_le (by simp) hb2.size
  clear hsp hb2 hb2'
  have hra : (1 : Nat) ≤ 1 ∧ (ra = none → 1 = 0) := by
    refine ⟨Nat.le_refl _, fun e => ?_⟩
    obtain ⟨b, off, e2, _⟩ := HSP.out.rows.addr (by simp [freeSp])
    rw [e] at e2; cases e2
  have HRA := Lib.hid hra
  clear hra
  have hbo : ∀ o o', Below w2.heap.size w2 ((w2.alloc o).alloc o') := fun o o' => (b1 _ _).alloc (by simp) o'
  have HBO := Lib.hid hbo
  have h1 := vcall ad ((w2.alloc (Obj.cells #[.int .i64 1, .string ⟨#[]⟩, .string ⟨#[97]⟩, .slice ra 1 1, .string ⟨#[]⟩, .int .i64 (-1)] 55)).alloc (Obj.cells #[.bool true, .bool true] 4)) (w2.heap.size + 1 + 1) (some ⟨w.heap.size, 0, none⟩) (some ⟨w2.heap.size + 1, 0, none⟩) ra true false (by simp) (HR2.out.below stays_RRc (hbo _ _)) (bools_made _ [true, true] _ _ (by simp) _ rfl (by simp)) (HSP.out.below (hbo _ _)) HRA.out ((HE.out.below HB2.out).below (hbo _ _))
  rw [v1] at h1
  have H1 := Lib.hid h1
  clear h1 hbo
  go_wp2_with fail
  refine H1.out.mono ?_
  rintro e w3 ⟨rfl, hb3⟩
  obtain ⟨hc3, hf3⟩ := bcell hb3
  have k0 : w3.cell? ⟨w2.heap.size, 0, none⟩ = some (.int .i64 1) := (hc3 _ _ (by simp; omega)).trans (by simp)
  have k1 : w3.cell? ⟨w2.heap.size, 1, none⟩ = some (.string ⟨#[]⟩) := (hc3 _ _ (by simp; omega)).trans (by simp)
  have k2 : w3.cell? ⟨w2.heap.size, 2, none⟩ = some (.string ⟨#[97]⟩) := (hc3 _ _ (by simp; omega)).trans (by simp)
  have k3 : w3.cell? ⟨w2.heap.size, 3, none⟩ = some (.slice ra 1 1) := (hc3 _ _ (by simp; omega)).trans (by simp)
  have k4 : w3.cell? ⟨w2.heap.size, 4, none⟩ = some (.string ⟨#[]⟩) := (hc3 _ _ (by simp; omega)).trans (by simp)
  have k5 : w3.cell? ⟨w2.heap.size, 5, none⟩ = some (.int .i64 (-1)) := (hc3 _ _ (by simp; omega)).trans (by simp)
  have hz3 : w2.heap.size < w3.heap.size := Nat.lt_of_lt_of_le (by simp; omega) hb3.size
  have hb23 : Below w2.heap.size w2 w3 := fin (HBO.out _ _) hb3
  have hO3 : Bools w3 (some ⟨w2.heap.size + 1, 0, none⟩) [true, true] := (bools_made _ [true, true] _ _ (by simp) _ rfl (by simp)).below hb3
  have HB23 := Lib.hid hb23
  have HO3 := Lib.hid hO3
  clear hb3 hc3 hf3 hb23 hO3 H1
  have h2 := vcall ad w3 w3.heap.size (some ⟨w.heap.size, 0, none⟩) (some ⟨w2.heap.size + 1, 0, none⟩) ra true true rfl (HR2.out.below stays_RRc HB23.out) HO3.out (HSP.out.below HB23.out) HRA.out ((HE.out.below HB2.out).below HB23.out)
  rw [v2] at h2
  have H2 := Lib.hid h2
  clear h2
  go_wp2_with fail
  refine H2.out.mono ?_
  rintro e w4 ⟨rfl, hb4⟩
  obtain ⟨hc4, hf4⟩ := bcell hb4
  have m0 : w4.cell? ⟨w2.heap.size, 0, none⟩ = some (.int .i64 1) := (hc4 _ _ hz3).trans k0
  have m1 : w4.cell? ⟨w2.heap.size, 1, none⟩ = some (.string ⟨#[]⟩) := (hc4 _ _ hz3).trans k1
  have m2 : w4.cell? ⟨w2.heap.size, 2, none⟩ = some (.string ⟨#[97]⟩) := (hc4 _ _ hz3).trans k2
  have m3 : w4.cell? ⟨w2.heap.size, 3, none⟩ = some (.slice ra 1 1) := (hc4 _ _ hz3).trans k3
  have m4 : w4.cell? ⟨w2.heap.size, 4, none⟩ = some (.string ⟨#[]⟩) := (hc4 _ _ hz3).trans k4
  have m5 : w4.cell? ⟨w2.heap.size, 5, none⟩ = some (.int .i64 (-1)) := (hc4 _ _ hz3).trans k5
  have hz4 : w2.heap.size < w4.heap.size := Nat.lt_of_lt_of_le hz3 hb4.size
  have HB24 := Lib.hid (fin HB23.out hb4)
  have HO4 := Lib.hid (HO3.out.below hb4)
  clear hb4 hc4 hf4 H2 k0 k1 k2 k3 k4 k5
  have h3 := vcall ad w4 w4.heap.size (some ⟨w.heap.size, 0, none⟩) (some ⟨w2.heap.size + 1, 0, none⟩) ra false false rfl (HR2.out.below stays_RRc HB24.out) HO4.out (HSP.out.below HB24.out) HRA.out ((HE.out.below HB2.out).below HB24.out)
  rw [v3] at h3
  have H3 := Lib.hid h3
  clear h3
  go_wp2_with fail
  refine H3.out.mono ?_
  rintro e w5 ⟨rfl, hb5⟩
  have HB5 := Lib.hid (fin HB2.out (fin HB24.out hb5))
  clear hb5 H3 m0 m1 m2 m3 m4 m5
  go_wp2
  go_ret
  exact ⟨rfl, HB5.out⟩
end Go.Proofs.YtnmcajinaigcjaaGreatDoor

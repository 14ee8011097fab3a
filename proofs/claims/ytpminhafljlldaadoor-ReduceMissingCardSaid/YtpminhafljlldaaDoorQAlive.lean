/- haversacklaw19.alive: the chapter's example holds. -/
import Derived.Test.YtpminhafljlldaaDoorQValid
import Derived.Test.YtpminhafljlldaaDoorQFree
import Derived.Test.YtpminhafljlldaaDoorQBools
import Derived.Test.YtpminhafljlldaaDoorQBig
namespace Go.Proofs.YtpminhafljlldaaDoor
open Go.RowKit
open Q (It Ver Tm Sp Rc Dm)

/-- a record of a name, a number, and needs -/
def rcN (nm : ByteArray) (n : Int) (ds : List Sp) : Rc := ⟨⟨#[]⟩, ⟨#[]⟩, nm, ⟨#[]⟩, ⟨0, [], []⟩, ⟨#[]⟩, n, 0, ds, [], []⟩
theorem toList_nil : (⟨#[]⟩ : ByteArray).toList = [] := by rw [ByteArray.toList_eq]
theorem toList_star : (⟨#[42]⟩ : ByteArray).toList = [42] := by rw [ByteArray.toList_eq]
theorem mt_free (nm : ByteArray) (r : Rc) : Q.mt (freeSp nm) r = (nm.toList == r.name.toList) := by
  unfold Q.mt freeSp Q.has Q.sat
  simp
theorem nilS {w : World} : RS RSp 5 w [.slice none 0 0] [] ∧ RFt w [.slice none 0 0] [] := ⟨⟨none, 0, rfl, ⟨Nat.le_refl _, fun _ => rfl⟩, sl_nil⟩, ⟨none, 0, rfl, ⟨Nat.le_refl _, fun _ => rfl⟩, ⟨fun h => by simp at h, by simp⟩⟩⟩
theorem nilR {w : World} : RS (RS RIt 2) 1 w [.slice none 0 0] [] := ⟨none, 0, rfl, ⟨Nat.le_refl _, fun _ => rfl⟩, sl_nil⟩
theorem rrc (w : World) (nm : ByteArray) (hnm : SzS nm) (n : Int) (hn : I64 n) (ds : List Sp) (d : Value) (hd : RS RSp 5 w [d] ds) :
    RRc w [.string ⟨#[]⟩, .string ⟨#[]⟩, .string nm, .string ⟨#[]⟩, .int .i64 0, .slice none 0 0, .slice none 0 0, .string ⟨#[]⟩, .int .i64 n, .int .i64 0, d, .slice none 0 0, .slice none 0 0] (rcN nm n ds) :=
  ⟨_, _, _, _, _, _, rfl, Nat.zero_le _, Nat.zero_le _, hnm, Nat.zero_le _, Nat.zero_le _, hn, (by show -9223372036854775808 ≤ (0 : Int) ∧ (0 : Int) ≤ 9223372036854775807; omega), ⟨_, _, rfl, (by show -9223372036854775808 ≤ (0 : Int) ∧ (0 : Int) ≤ 9223372036854775807; omega), nilR, nilR⟩, hd, nilS.1, nilS.2⟩
/-- a slice whose cells were just laid -/
theorem sl_made {α : Type} {R : Rd α} {k : Nat} (W : World) (xs : List α) (uss : List (List Value)) (t : TypeId) (n : Nat) (hn : W.heap.size = n) (cs : Array Value) (hcs : cs = uss.flatten.toArray) (hl : xs.length = uss.length) (hx : xs.length ≤ 5864062014805)
    (h : ∀ (i : Nat) x us, xs[i]? = some x → uss[i]? = some us → us.length = k ∧ R (W.alloc (.cells cs t)) us x) (hk : ∀ us ∈ uss, us.length = k) : Sl R k (W.alloc (.cells cs t)) (some ⟨n, 0, none⟩) xs := by
  subst hn
  refine ⟨fun _ => ⟨_, 0, rfl, by simp, fun i x hi => ?_⟩, hx⟩
  have hil : i < uss.length := by have := (List.getElem?_eq_some_iff.1 hi).1; omega
  obtain ⟨h1, h2⟩ := h i x uss[i] hi (List.getElem?_eq_getElem hil)
  refine ⟨uss[i], h1, fun j hj => ?_, h2⟩
  rw [cell_of_cells (heap_alloc_new W _), hcs, Nat.zero_add]
  simp only [List.getElem?_toArray]
  have key : ∀ (uss : List (List Value)) (i : Nat) (hi : i < uss.length), (∀ us ∈ uss, us.length = k) → uss.flatten[i * k + j]? = (uss[i])[j]? := by
    intro uss
    induction uss with
    | nil => intro i hi; simp at hi
    | cons u l ih =>
      intro i hi hk
      have hu := hk u (List.mem_cons_self ..)
      cases i with
      | zero => simp only [List.flatten_cons, Nat.zero_mul, Nat.zero_add, List.getElem_cons_zero]; rw [List.getElem?_append_left (by omega)]
      | succ i =>
        simp only [List.flatten_cons, List.getElem_cons_succ]
        rw [List.getElem?_append_right (by rw [Nat.add_mul]; omega), ← ih i (by simpa using hi) (fun us h => hk us (List.mem_cons_of_mem _ h))]
        congr 1
        rw [Nat.add_mul]; omega
  exact key uss i hil hk
theorem bools_made (W : World) (xs : List Bool) (t : TypeId) (n : Nat) (hn : W.heap.size = n) (cs : Array Value) (hcs : cs = (xs.map Value.bool).toArray) (hx : xs.length ≤ 140737488351232) : Bools (W.alloc (.cells cs t)) (some ⟨n, 0, none⟩) xs := by
  subst hn
  refine ⟨fun _ => ⟨_, 0, rfl, by simp, fun i x hi => ?_⟩, hx⟩
  rw [cell_of_cells (heap_alloc_new W _), hcs]
  simp [hi]
def nmA : ByteArray := ⟨#[97]⟩
theorem szA : SzS nmA := by unfold SzS; decide
def l19 : List Rc := [rcN nmA 1 [], rcN nmA 2 []]
def d19 : Dm := ⟨1, freeSp nmA⟩
theorem mtA (n : Int) : Q.mt (freeSp nmA) (rcN nmA n []) = true := by rw [mt_free]; simp [rcN]
theorem v1 : Q.valid l19 [true, true] [true, false] [d19] = true := by
  simp [Q.valid, l19, d19, Q.okAt, List.range_succ, Q.fits, rcN, Q.holds, Q.some_]
  exact mtA 1
theorem v2 : Q.valid l19 [true, true] [true, true] [d19] = false := by
  simp [Q.valid, l19, d19, Q.okAt, List.range_succ, Q.fits, rcN, Q.holds, Q.some_]
theorem v3 : Q.valid l19 [true, true] [false, false] [d19] = false := by
  simp [Q.valid, l19, d19, Q.okAt, List.range_succ, Q.fits, rcN, Q.holds, Q.some_]
theorem vcall (ad : Addr) (W : World) (n : Nat) (a o ra : Option Addr) (x y : Bool) (hn : W.heap.size = n) (hR : Sl RRc 13 W a l19) (hO : Bools W o [true, true]) (hS : SpAt W (freeSp nmA) ra 1) (hc : (1 : Nat) ≤ 1 ∧ (ra = none → 1 = 0)) (hE : ErrR W ad) :
    Calls Tryd.prog 14 #[.slice a 2 2, .slice o 2 2, .slice (some ⟨n, 0, none⟩) 2 2, .slice (some ⟨n + 1, 0, none⟩) 1 1] ((W.alloc (Obj.cells #[.bool x, .bool y] 4)).alloc (Obj.cells #[.int .i64 1, .string ⟨#[]⟩, .string ⟨#[97]⟩, .slice ra 1 1, .string ⟨#[]⟩, .int .i64 (-1)] 37)) fun e w' => e = .returned (.bool (Q.valid l19 [true, true] [x, y] [d19])) ∧ Below W.heap.size W w' := by
  have hb : ∀ o o', Below W.heap.size W ((W.alloc o).alloc o') := fun o o' => (b1 _ _).alloc (by simp) o'
  refine rel (hb _ _) (valid_any ad a (some ⟨n, 0, none⟩) o (some ⟨n + 1, 0, none⟩) 2 2 2 1 l19 [true, true] [x, y] [d19] _ ⟨hR.below stays_RRc (hb _ _), ?_⟩ (hO.below (hb _ _)) ?_ (hE.below (hb _ _)))
  · exact (bools_made W [x, y] 4 n hn _ rfl (by simp)).below (b1 _ _)
  · refine sl_made (R := RDm) (k := 6) _ [d19] [[.int .i64 1, .string ⟨#[]⟩, .string ⟨#[97]⟩, .slice ra 1 1, .string ⟨#[]⟩, .int .i64 (-1)]] 37 _ (by simp [hn]) _ rfl rfl (by simp) ?_ (by simp)
    intro i x us hx hu
    match i, hx, hu with
    | 0, hx, hu =>
      simp at hx hu; subst hx hu
      exact ⟨rfl, _, rfl, (by show -9223372036854775808 ≤ (1 : Int) ∧ (1 : Int) ≤ 9223372036854775807; omega), _, rfl, Nat.zero_le _, szA, Nat.zero_le _, (by show -9223372036854775808 ≤ (-1 : Int) ∧ (-1 : Int) ≤ 9223372036854775807; omega), ⟨ra, 1, rfl, hc, (hS.below (hb _ _)).rows⟩⟩
    | n + 1, hx, hu => simp at hx
set_option maxHeartbeats 2000000 in
set_option maxRecDepth 100000 in
theorem alive19 (ad : Addr) (w : World) (hE : ErrR w ad) :
    Calls Tryd.prog 9 #[] w fun e w' => e = .returned (.bool true) ∧ Below w.heap.size w w' := by
  have HE := Lib.hid hE
  clear hE
  go_enter Tryd.func9, Tryd.ntmps9
  go_wp2_with fail
  refine (free_any _ _).mono ?_
  rintro e w2 ⟨ra, rfl, hsp, hb2⟩
  have hb2' := fin (b1 _ _) hb2
  have HSP := Lib.hid hsp
  have HB2 := Lib.hid hb2'
  have HR2 := Lib.hid ((sl_made (R := RRc) (k := 13) w l19 [[.string ⟨#[]⟩, .string ⟨#[]⟩, .string nmA, .string ⟨#[]⟩, .int .i64 0, .slice none 0 0, .slice none 0 0, .string ⟨#[]⟩, .int .i64 1, .int .i64 0, .slice none 0 0, .slice none 0 0, .slice none 0 0], [.string ⟨#[]⟩, .string ⟨#[]⟩, .string nmA, .string ⟨#[]⟩, .int .i64 0, .slice none 0 0, .slice none 0 0, .string ⟨#[]⟩, .int .i64 2, .int .i64 0, .slice none 0 0, .slice none 0 0, .slice none 0 0]] 69 _ rfl _ rfl rfl (by decide) (by
    intro i x us hx hu
    match i, hx, hu with
    | 0, hx, hu => simp [l19] at hx hu; subst hx hu; exact ⟨rfl, rrc _ _ szA 1 (by show -9223372036854775808 ≤ (1 : Int) ∧ (1 : Int) ≤ 9223372036854775807; omega) [] _ nilS.1⟩
    | 1, hx, hu => simp [l19] at hx hu; subst hx hu; exact ⟨rfl, rrc _ _ szA 2 (by show -9223372036854775808 ≤ (2 : Int) ∧ (2 : Int) ≤ 9223372036854775807; omega) [] _ nilS.1⟩
    | n + 2, hx, hu => simp [l19] at hx) (by simp)).below stays_RRc hb2)
  have hz2 : w.heap.size < w2.heap.size := Nat.lt_of_lt_of_le (by simp) hb2.size
  clear hsp hb2 hb2'
  have hra : (1 : Nat) ≤ 1 ∧ (ra = none → 1 = 0) := by
    refine ⟨Nat.le_refl _, fun e => ?_⟩
    obtain ⟨b, off, e2, _⟩ := HSP.out.rows.addr (by simp [freeSp])
    rw [e] at e2; cases e2
  have HRA := Lib.hid hra
  clear hra
  have hbo : ∀ o o', Below w2.heap.size w2 ((w2.alloc o).alloc o') := fun o o' => (b1 _ _).alloc (by simp) o'
  have HBO := Lib.hid hbo
  have h1 := vcall ad ((w2.alloc (Obj.cells #[.int .i64 1, .string ⟨#[]⟩, .string ⟨#[97]⟩, .slice ra 1 1, .string ⟨#[]⟩, .int .i64 (-1)] 37)).alloc (Obj.cells #[.bool true, .bool true] 4)) (w2.heap.size + 1 + 1) (some ⟨w.heap.size, 0, none⟩) (some ⟨w2.heap.size + 1, 0, none⟩) ra true false (by simp) (HR2.out.below stays_RRc (hbo _ _)) (bools_made _ [true, true] _ _ (by simp) _ rfl (by simp)) (HSP.out.below (hbo _ _)) HRA.out ((HE.out.below HB2.out).below (hbo _ _))
  rw [v1] at h1
  have H1 := Lib.hid h1
  clear h1 hbo
  go_wp2_with fail
  refine H1.out.mono ?_
  rintro e w3 ⟨rfl, hb3⟩
  obtain ⟨hc3, hf3⟩ := bcell hb3
  have k0 : w3.cell? ⟨w2.heap.size, 0, none⟩ = some (.int .i64 1) := (hc3 _ _ (by simp; omega)).trans (by simp)
  have k1 : w3.cell? ⟨w2.heap.size, 1, none⟩ = some (.string ⟨#[]⟩) := (hc3 _ _ (by simp; omega)).trans (by simp)
  have k2 : w3.cell? ⟨w2.heap.size, 2, none⟩ = some (.string ⟨#[97]⟩) := (hc3 _ _ (by simp; omega)).trans (by simp)
  have k3 : w3.cell? ⟨w2.heap.size, 3, none⟩ = some (.slice ra 1 1) := (hc3 _ _ (by simp; omega)).trans (by simp)
  have k4 : w3.cell? ⟨w2.heap.size, 4, none⟩ = some (.string ⟨#[]⟩) := (hc3 _ _ (by simp; omega)).trans (by simp)
  have k5 : w3.cell? ⟨w2.heap.size, 5, none⟩ = some (.int .i64 (-1)) := (hc3 _ _ (by simp; omega)).trans (by simp)
  have hz3 : w2.heap.size < w3.heap.size := Nat.lt_of_lt_of_le (by simp; omega) hb3.size
  have hb23 : Below w2.heap.size w2 w3 := fin (HBO.out _ _) hb3
  have hO3 : Bools w3 (some ⟨w2.heap.size + 1, 0, none⟩) [true, true] := (bools_made _ [true, true] _ _ (by simp) _ rfl (by simp)).below hb3
  have HB23 := Lib.hid hb23
  have HO3 := Lib.hid hO3
  clear hb3 hc3 hf3 hb23 hO3 H1
  have h2 := vcall ad w3 w3.heap.size (some ⟨w.heap.size, 0, none⟩) (some ⟨w2.heap.size + 1, 0, none⟩) ra true true rfl (HR2.out.below stays_RRc HB23.out) HO3.out (HSP.out.below HB23.out) HRA.out ((HE.out.below HB2.out).below HB23.out)
  rw [v2] at h2
  have H2 := Lib.hid h2
  clear h2
  go_wp2_with fail
  refine H2.out.mono ?_
  rintro e w4 ⟨rfl, hb4⟩
  obtain ⟨hc4, hf4⟩ := bcell hb4
  have m0 : w4.cell? ⟨w2.heap.size, 0, none⟩ = some (.int .i64 1) := (hc4 _ _ hz3).trans k0
  have m1 : w4.cell? ⟨w2.heap.size, 1, none⟩ = some (.string ⟨#[]⟩) := (hc4 _ _ hz3).trans k1
  have m2 : w4.cell? ⟨w2.heap.size, 2, none⟩ = some (.string ⟨#[97]⟩) := (hc4 _ _ hz3).trans k2
  have m3 : w4.cell? ⟨w2.heap.size, 3, none⟩ = some (.slice ra 1 1) := (hc4 _ _ hz3).trans k3
  have m4 : w4.cell? ⟨w2.heap.size, 4, none⟩ = some (.string ⟨#[]⟩) := (hc4 _ _ hz3).trans k4
  have m5 : w4.cell? ⟨w2.heap.size, 5, none⟩ = some (.int .i64 (-1)) := (hc4 _ _ hz3).trans k5
  have hz4 : w2.heap.size < w4.heap.size := Nat.lt_of_lt_of_le hz3 hb4.size
  have HB24 := Lib.hid (fin HB23.out hb4)
  have HO4 := Lib.hid (HO3.out.below hb4)
  clear hb4 hc4 hf4 H2 k0 k1 k2 k3 k4 k5
  have h3 := vcall ad w4 w4.heap.size (some ⟨w.heap.size, 0, none⟩) (some ⟨w2.heap.size + 1, 0, none⟩) ra false false rfl (HR2.out.below stays_RRc HB24.out) HO4.out (HSP.out.below HB24.out) HRA.out ((HE.out.below HB2.out).below HB24.out)
  rw [v3] at h3
  have H3 := Lib.hid h3
  clear h3
  go_wp2_with fail
  refine H3.out.mono ?_
  rintro e w5 ⟨rfl, hb5⟩
  have HB5 := Lib.hid (fin HB2.out (fin HB24.out hb5))
  clear hb5 H3 m0 m1 m2 m3 m4 m5
  go_wp2
  go_ret
  exact ⟨rfl, HB5.out⟩
end Go.Proofs.YtpminhafljlldaaDoor

/- The contracts of haversackref23.Of; what order.Rings, order.Of and order.Needs answer where lengths differ. -/
import Derived.Test.YtnmcajinaigcjaaGreatDoorORefR
import Derived.Test.YtnmcajinaigcjaaGreatDoorDNum
namespace Go.Proofs.YtnmcajinaigcjaaGreatDoor
open Go.RowKit
open Q (It Ver Tm Sp Rc Dm)

theorem rows_le : ∀ L : List (List Nat), (∀ r ∈ L, r ≠ []) → L.length ≤ L.flatten.length := by
  intro L
  induction L with
  | nil => simp
  | cons r L ih =>
    intro h
    have := ih fun r hr => h r (by simp [hr])
    have := List.length_pos_iff.2 (h r (by simp))
    rw [List.flatten_cons, List.length_append, List.length_cons]; omega
set_option maxHeartbeats 4000000 in
set_option maxRecDepth 100000 in
theorem rof_any (a b : Option Addr) (c e : Nat) (l : List Rc) (ch : List Bool) (w : World) (hR : RIn w a b l ch) (hl : ch.length = l.length) (hm : l.length ≤ 60) :
    Calls Tryz.prog 14 #[.slice a l.length c, .slice b ch.length e] w fun e w' => ∃ oa oc L, e = .returned (.slice oa (tot L) oc) ∧ Ordered l ch L ∧ Sl RN 1 w' oa L.flatten ∧ Below w.heap.size w w' := by
  have HR := Lib.hid hR
  have HL := Lib.hid hl
  clear hR hl
  go_enter Tryz.func14, Tryz.ntmps14
  go_wp2_with fail
  (with_reducible refine (rrings_any a b c e l ch _ (HR.out.below (b1 _ _)) HL.out hm).mono ?_)
  rintro e1 w1 ⟨la, lc, L, rfl, hL, hiv, hb⟩
  have hfl := hL.1.len
  have hll := Nat.le_trans (rows_le L fun r hr => by
    obtain ⟨q, hq⟩ := List.getElem?_of_mem hr
    exact (hL.1.nth hq).ne) hfl
  have hz1 : w.heap.size < w1.heap.size := by have := hb.size; simp at this; omega
  have HORD := Lib.hid hL
  have HIV := Lib.hid hiv
  have HO1 := Lib.hid ((made0N w).below hb)
  have HB1 := Lib.hid (fin (b1 w _) hb)
  have HM := Lib.hid (Nat.le_trans hfl hm)
  clear hL hiv hb hfl
  go_wp2
  go_loopw [5, 13] (fun s i wr => ∃ (k : Nat) (sa : Option Addr) (sc : Nat), k ≤ L.length ∧ i = .int .i64 k ∧ s = .slice sa (tot (L.take k)) sc ∧ OwnN wr w.heap.size sa sc (L.take k).flatten ∧ w1.grownBy wr (some w.heap.size) ∧ (∀ ad, sa = some ad → ad.block = w.heap.size ∨ w1.heap.size ≤ ad.block)) (fun _ i _ => L.length - (intOf i).toNat)
  case atStart => exact ⟨0, _, _, Nat.zero_le _, rfl, rfl, HO1.out, World.grownBy.refl _ _, fun ad e => by cases e; exact .inl rfl⟩
  case round =>
    obtain ⟨k, sa, sc, hk, rfl, rfl, hso, hgr, hat⟩ := hrel
    have HSO := Lib.hid hso
    have HGR := Lib.hid hgr
    have HAT := Lib.hid hat
    have hzr := hgr.size
    obtain ⟨a0, c0, e0, _, hsl⟩ := (HIV.out.keep hzr fun b h1 h2 => hgr.block b h2 fun e => by have h3 := Option.some.inj e; simp at h1; omega).read
    cases e0
    have HSL := Lib.hid hsl
    clear hso hgr hat hsl
    by_cases hlt : k < L.length
    · obtain ⟨r, hr⟩ : ∃ r, L[k]? = some r := ⟨L[k], by simp [hlt]⟩
      obtain ⟨b9, off, ra, rc, rfl, hbl, hbc, hrc, hrs⟩ := Sl.cellNs HSL.out hr
      have hrne : 0 < r.length := List.length_pos_iff.2 (HORD.out.1.nth hr).ne
      obtain ⟨b8, o8, rfl, _⟩ := hrs.addr hrne
      have e1 := flat_take hr
      have e2 := flat_take_le L (k + 1)
      have e3 := congrArg List.length e1
      rw [List.length_append] at e3
      rw [e3] at e2
      replace e2 := Nat.le_trans e2 HM.out
      have HE := Lib.hid e1
      have HE3 := Lib.hid e3
      have HRS := Lib.hid hrs
      have HRC := Lib.hid hrc
      clear e1 e3 hr hrs hrc
      have ht : tot (L.take k) = (L.take k).flatten.length := rfl
      rw [ht]
      clear ht
      generalize hq : (L.take k).flatten = q at HE HE3 HSO e2 ⊢
      clear hq
      go_wp2_with (at_builtin; refine wpList_append_flatAt (R := RN) Tryz.infoInt rfl (by decide) rfl (.tmp 17) (.tmp 18) 31 rfl Tryz.underlying31 w.heap.size _ _ _ (enN q) rfl HSO.out _ _ _ r rfl rfl HRS.out (RN.ones _) (by omega) (by omega) (by omega) ?_; intro a1 c1 w3 cells1 hown1 hF1 hg1 hB1 hat1; have hE := hF1.rn; subst hE; have HO3 := Lib.hid hown1; have HG3 := Lib.hid hg1; have HAT3 := Lib.hid hat1; clear hown1 hF1 hg1 hB1 hat1)
      go_roundw
      case rel =>
        refine ⟨k + 1, a1, c1, by omega, by go_num, by rw [show tot (L.take (k + 1)) = (L.take (k + 1)).flatten.length from rfl, HE3.out], ?_, HGR.out.andThen HG3.out fun j hj => ?_, fun ad e => ?_⟩
        · unfold OwnN
          rw [HE.out, enN_append, List.length_append]; exact HO3.out
        · cases sa with
          | none => cases hj
          | some ad =>
            have h1 := HAT.out ad rfl
            rw [own_ad' ad] at hj
            have h2 := Option.some.inj hj
            rcases h1 with h1 | h1
            · right; rw [← h2, h1]
            · left; omega
        · rcases HAT3.out ad e with ⟨ad0, h1, h2⟩ | h1
          · rw [← h2]; exact HAT.out ad0 h1
          · right; omega
      case measure => simp [intOf]; omega
    · obtain rfl : k = L.length := by omega
      have hso := HSO.out
      have ht : tot (L.take L.length) = tot L := by rw [List.take_length]
      rw [List.take_length] at hso
      rw [ht]
      have HS := Lib.hid (hso.sl (by have := HM.out; omega))
      have HB := Lib.hid (HB1.out.grown HGR.out (by omega) fun j hj => by have := Option.some.inj hj; omega)
      clear hso ht
      generalize hq : tot L = q
      go_wp2
      go_ret
      subst hq
      exact ⟨sa, sc, L, rfl, HORD.out, HS.out, HB.out⟩
/-- the error comes back -/
def BadPost (ad : Addr) (w : World) (e : Ending) (w' : World) : Prop := e = .returned (.tuple #[.slice none 0 0, errAt ad]) ∧ Below w.heap.size w w'
set_option maxHeartbeats 1000000 in
theorem oRings_big (ad : Addr) (a b : Option Addr) (n m c e : Nat) (w : World) (hn : 60 < n) (hE : w.cell? ⟨0, 0, none⟩ = some (errAt ad)) :
    Calls Tryz.prog 7 #[.slice a n c, .slice b m e] w (BadPost ad w) := by
  have n1 : decide ((n : Int) > 60) = true := decide_eq_true (by omega)
  have n2 : decide ((60 : Int) < (n : Int)) = true := decide_eq_true (by omega)
  have n3 : decide (60 < n) = true := decide_eq_true (by omega)
  unfold errAt at hE
  go_enter Tryz.func7, Tryz.ntmps7
  go_wp2
  go_step3
  go_wp2
  go_quiet (fail)
  go_wp2
  rw [Exit.noGoto_ret]
  go_ret2
  exact ⟨rfl, bDr (Below.refl _ _)⟩
set_option maxHeartbeats 1000000 in
theorem oRings_len (ad : Addr) (a b : Option Addr) (n m c e : Nat) (w : World) (hn : n ≤ 60) (hne : m ≠ n) (hE : w.cell? ⟨1, 0, none⟩ = some (errAt ad)) :
    Calls Tryz.prog 7 #[.slice a n c, .slice b m e] w (BadPost ad w) := by
  have n1 : ((m : Int) != (n : Int)) = true := by rw [bne_iff_ne]; omega
  have n2 : decide ((n : Int) > 60) = false := decide_eq_false (by omega)
  have n3 : decide ((60 : Int) < (n : Int)) = false := decide_eq_false (by omega)
  have n4 : decide (60 < n) = false := decide_eq_false (by omega)
  unfold errAt at hE
  go_enter Tryz.func7, Tryz.ntmps7
  go_wp2
  go_step3
  go_wp2
  go_quiet (fail)
  go_wp2
  rw [Exit.noGoto_ret]
  go_ret2
  exact ⟨rfl, bDr (Below.refl _ _)⟩
set_option maxHeartbeats 1000000 in
theorem oOf_bad (ad : Addr) (a b : Option Addr) (n m c e : Nat) (w : World) (hC : Calls Tryz.prog 7 #[.slice a n c, .slice b m e] w (BadPost ad w)) :
    Calls Tryz.prog 8 #[.slice a n c, .slice b m e] w (BadPost ad w) := by
  have HC := Lib.hid hC
  clear hC
  have hneq := neqErr ad
  have hneg := neqErrG ad
  unfold errAt at hneq hneg
  go_enter Tryz.func8, Tryz.ntmps8
  go_wp2_with fail
  (with_reducible refine HC.out.mono ?_)
  rintro e1 w2 ⟨rfl, hb⟩
  have HB := Lib.hid hb
  clear hb
  unfold errAt
  go_wp2
  go_ret2
  exact ⟨rfl, HB.out⟩
set_option maxHeartbeats 1000000 in
theorem oneeds_nil (a b : Option Addr) (n m c e : Nat) (z : Int) (w : World) (h : z < 0 ∨ (n : Int) ≤ z ∨ m ≠ n) :
    Calls Tryz.prog 10 #[.slice a n c, .slice b m e, .int .i64 z] w fun e w' => e = .returned (.slice none 0 0) ∧ Below w.heap.size w w' := by
  by_cases h0 : z < 0
  · have n1 : decide (z < 0) = true := decide_eq_true h0
    clear h
    go_enter Tryz.func10, Tryz.ntmps10
    go_wp2
    go_ret
    exact ⟨rfl, Below.refl _ _⟩
  have n1 : decide (z < 0) = false := decide_eq_false h0
  by_cases h1 : (n : Int) ≤ z
  · have n2 : decide (z ≥ (n : Int)) = true := decide_eq_true (by omega)
    have n3 : decide ((n : Int) ≤ z) = true := decide_eq_true (by omega)
    clear h
    go_enter Tryz.func10, Tryz.ntmps10
    go_wp2
    go_ret
    exact ⟨rfl, Below.refl _ _⟩
  have n2 : decide (z ≥ (n : Int)) = false := decide_eq_false (by omega)
  have n3 : decide ((n : Int) ≤ z) = false := decide_eq_false (by omega)
  have n4 : ((m : Int) != (n : Int)) = true := by rw [bne_iff_ne]; omega
  clear h
  go_enter Tryz.func10, Tryz.ntmps10
  go_wp2
  go_ret
  exact ⟨rfl, Below.refl _ _⟩
end Go.Proofs.YtnmcajinaigcjaaGreatDoor

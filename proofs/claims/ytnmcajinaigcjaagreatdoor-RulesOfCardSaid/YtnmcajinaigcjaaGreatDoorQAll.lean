/- What the laws of rules share: a choice in a box, rows of bools that are all true, the guard of demands. -/
import Derived.Test.YtnmcajinaigcjaaGreatDoorQBigAll
import Derived.Test.YtnmcajinaigcjaaGreatDoorQOpenD
import Derived.Test.YtnmcajinaigcjaaGreatDoorQAlive
namespace Go.Proofs.YtnmcajinaigcjaaGreatDoor
open Go.RowKit
open Q (It Ver Tm Sp Rc Dm)

structure ChBox (w : World) (B : Nat) (a o b da : Option Addr) (c oc e dc : Nat) (l : List Rc) (on ch : List Bool) (ds : List Dm) : Prop where
  lt : B < w.heap.size
  c0 : w.cell? ⟨B, 0, none⟩ = some (.slice a l.length c)
  c1 : w.cell? ⟨B, 1, none⟩ = some (.slice o on.length oc)
  c2 : w.cell? ⟨B, 2, none⟩ = some (.slice b ch.length e)
  c3 : w.cell? ⟨B, 3, none⟩ = some (.slice da ds.length dc)
theorem ChBox.below {w w' : World} {B : Nat} {a o b da : Option Addr} {c oc e dc : Nat} {l : List Rc} {on ch : List Bool} {ds : List Dm} (h : ChBox w B a o b da c oc e dc l on ch ds) (hb : Below w.heap.size w w') : ChBox w' B a o b da c oc e dc l on ch ds :=
  ⟨Nat.lt_of_lt_of_le h.lt hb.size, (hb.cell (p := ⟨B, 0, none⟩) h.lt).trans h.c0, (hb.cell (p := ⟨B, 1, none⟩) h.lt).trans h.c1, (hb.cell (p := ⟨B, 2, none⟩) h.lt).trans h.c2, (hb.cell (p := ⟨B, 3, none⟩) h.lt).trans h.c3⟩
theorem Cho.below {w w' : World} {a o b da : Option Addr} {c oc e dc : Nat} {l : List Rc} {on ch : List Bool} {ds : List Dm} (h : Cho w a o b da c oc e dc l on ch ds) (hb : Below w.heap.size w w') : Cho w' a o b da c oc e dc l on ch ds :=
  ⟨h.recs.below stays_RRc hb, h.ons.below hb, h.chs.below hb, h.dms.below stays_RDm hb, h.cr, h.co, h.ce, h.cd⟩
theorem Cho.rin {w : World} {a o b da : Option Addr} {c oc e dc : Nat} {l : List Rc} {on ch : List Bool} {ds : List Dm} (h : Cho w a o b da c oc e dc l on ch ds) : RIn w a b l ch := ⟨h.recs, h.chs⟩
/-- the first k of n are true -/
def allAt (n k : Nat) : List Bool := List.replicate k true ++ List.replicate (n - k) false
theorem allAt_len {n k : Nat} (h : k ≤ n) : (allAt n k).length = n := by unfold allAt; simp; omega
theorem allAt_zero (n : Nat) : allAt n 0 = List.replicate n false := by simp [allAt]
theorem allAt_full (n : Nat) : allAt n n = List.replicate n true := by simp [allAt]
theorem allAt_set {n k : Nat} (h : k < n) : (allAt n k).set k true = allAt n (k + 1) := by
  unfold allAt
  apply List.ext_getElem?
  intro i
  rw [List.getElem?_set]
  simp only [List.length_append, List.length_replicate]
  by_cases e : k = i
  · subst e
    rw [if_pos rfl, if_pos (by omega), List.getElem?_append_left (by simp)]
    simp
  · rw [if_neg e]
    by_cases hi : i < k
    · rw [List.getElem?_append_left (by simpa using hi), List.getElem?_append_left (by simp; omega), List.getElem?_replicate, List.getElem?_replicate, if_pos hi, if_pos (by omega)]
    · rw [List.getElem?_append_right (by simp; omega), List.getElem?_append_right (by simp; omega)]
      simp only [List.length_replicate, List.getElem?_replicate]
      by_cases h2 : i < n
      · rw [if_pos (by omega), if_pos (by omega)]
      · rw [if_neg (by omega), if_neg (by omega)]
theorem allAt_at {n k : Nat} (h : k < n) : (allAt n k)[k]? = some false := by
  unfold allAt
  rw [List.getElem?_append_right (by simp), List.length_replicate, Nat.sub_self, List.getElem?_replicate, if_pos (by omega)]
set_option maxHeartbeats 1000000 in
theorem bigD_len (da : Option Addr) (dc : Nat) (ds : List Dm) (w : World) (hD : Sl RDm 6 w da ds) :
    Calls Tryz.prog 16 #[.slice da ds.length dc] w (BigPost ds.length 12 w) := by
  have HD := Lib.hid hD
  have hl := hD.len
  clear hD
  by_cases h1 : 12 < ds.length
  · have d1 : decide ((12 : Int) < (ds.length : Int)) = true := by simp; omega
    go_enter Tryz.func16, Tryz.ntmps16
    go_wp2
    go_ret
    exact ⟨_, rfl, (fun h => by cases h), Below.refl _ _⟩
  have d1 : decide ((12 : Int) < (ds.length : Int)) = false := by simp; omega
  go_enter Tryz.func16, Tryz.ntmps16
  go_wp2
  clear d1
  go_loopw [4, 10] (fun _ i wr => ∃ k : Nat, k ≤ ds.length ∧ i = .int .i64 k ∧ Below w.heap.size w wr) (fun _ i _ => ds.length - (intOf i).toNat)
  case atStart => exact ⟨0, by omega, rfl, Below.refl _ _⟩
  case round =>
    obtain ⟨k, hk, rfl, hbr⟩ := hrel
    have HB := Lib.hid hbr
    clear hbr
    by_cases hlt : k < ds.length
    · obtain ⟨d, hx⟩ : ∃ x, ds[k]? = some x := ⟨ds[k], by simp [hlt]⟩
      obtain ⟨bb, off, ra, rc, rfl, hbl, ⟨t0, t1, t2, t3, t4, t5⟩, hat, hw⟩ := (HD.out.below stays_RDm HB.out).cellsDm hx
      have HA := Lib.hid hat
      clear hx hat hw
      go_wp2_with fail
      (with_reducible refine (big09_any d.spec ra rc _ (HA.out.below (b1 _ _))).mono ?_)
      rintro e w5 ⟨q, rfl, hb⟩
      have HB5 := Lib.hid (fin (HB.out.alloc HB.out.size _) hb)
      clear hb
      cases q
      · go_wp2
        go_roundw
        case rel => exact ⟨k + 1, by omega, by go_num, HB5.out⟩
        case measure => simp [intOf]; omega
      · go_wp2
        go_ret
        exact ⟨_, rfl, (fun h => by cases h), HB5.out⟩
    · go_wp2
      go_ret
      exact ⟨_, rfl, (fun _ => by omega), HB.out⟩
theorem bigD_any (da : Option Addr) (dc : Nat) (ds : List Dm) (w : World) (hD : Sl RDm 6 w da ds) :
    Calls Tryz.prog 16 #[.slice da ds.length dc] w (SomeB w) := (bigD_len da dc ds w hD).mono fun _ _ ⟨b, h1, _, h2⟩ => ⟨b, h1, h2⟩
/-- append([]bool{}, bs...) -/
def RBo : Rd Bool := fun _ us z => us = [.bool z]
theorem Bools.sl {w : World} {a : Option Addr} {m : List Bool} (h : Bools w a m) (hl : m.length ≤ 5864062014805) : Sl RBo 1 w a m := by
  refine ⟨fun h0 => ?_, hl⟩
  obtain ⟨b, off, e, hlt, hc⟩ := h.addr h0
  refine ⟨b, off, e, hlt, fun i x hx => ⟨[.bool x], rfl, fun j hj => ?_, rfl⟩⟩
  obtain rfl : j = 0 := by omega
  simpa using hc i x hx
theorem RBo.ones (w : World) : ∀ us x, RBo w us x → ∀ u ∈ us, u.oneCell' = true := fun us x h u hu => by rw [show us = [.bool x] from h] at hu; simp at hu; subst hu; rfl
theorem Flat.bo {w : World} {xs : List Bool} {cells : List Value} (h : Flat RBo 1 w xs cells) : cells = xs.map Value.bool := by
  apply List.ext_getElem?
  intro i
  rcases Nat.lt_or_ge i xs.length with hi | hi
  · obtain ⟨us, u1, u2, u3⟩ := h.at_ i xs[i] (List.getElem?_eq_getElem hi)
    have := u2 0 (by omega)
    rw [show us = [.bool xs[i]] from u3] at this
    rw [List.getElem?_map, List.getElem?_eq_getElem hi]; simpa using this
  · rw [List.getElem?_map, List.getElem?_eq_none hi, List.getElem?_eq_none (by rw [h.len]; omega)]; rfl
end Go.Proofs.YtnmcajinaigcjaaGreatDoor

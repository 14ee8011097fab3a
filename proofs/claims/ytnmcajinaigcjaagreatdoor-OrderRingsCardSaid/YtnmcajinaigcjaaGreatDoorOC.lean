/- One text of XOCat, XOSmN, XOOf, XOBhd, XOAlive: a claim has at most 60 files. -/
import Derived.Test.YtnmcajinaigcjaaGreatDoorOA
import Derived.Lib.AppendZerosOnto
import Derived.Test.YtnmcajinaigcjaaGreatDoorORng
import Derived.Test.YtnmcajinaigcjaaGreatDoorQMade
namespace Go.Proofs.YtnmcajinaigcjaaGreatDoor
open Go.RowKit
open Q (It Ver Tm Sp Rc Dm)

theorem Flat.rn {w : World} {l : List Nat} {cells : List Value} (h : Flat RN 1 w l cells) : cells = enN l := by
  apply List.ext_getElem?
  intro i
  cases hx : l[i]? with
  | none =>
    have h1 := List.getElem?_eq_none_iff.1 hx
    rw [List.getElem?_eq_none (by rw [h.len]; omega), List.getElem?_eq_none (by rw [enN_length]; omega)]
  | some x =>
    obtain ⟨us, h1, h2, h3⟩ := h.at_ i x hx
    have := h2 0 (by omega)
    rw [Nat.mul_one, Nat.add_zero] at this
    rw [this, h3, enN_get hx]; rfl
set_option maxHeartbeats 2000000 in
set_option maxRecDepth 100000 in
theorem ogrow_any (n : Nat) (w : World) (hn : n ≤ 1000000) :
    Calls Tryz.prog 59 #[.slice none 0 0, .int .i64 (n : Int)] w fun e w' => ∃ a c, e = .returned (.slice a 0 c) ∧ OwnN w' w.heap.size a c [] ∧ Below w.heap.size w w' := by
  rcases Nat.eq_zero_or_pos n with rfl | h0
  · go_enter Tryz.func59, Tryz.ntmps59
    go_wp2
    go_ret
    exact ⟨none, 0, rfl, Own.nil _ _ _ _, Below.refl _ _⟩
  · obtain ⟨i0, hi, hz0, hz1, hz2⟩ := info_parts Tryz.infoInt
    have hrz : ∀ ty, (Builtin.append_ #[31, 3] ty #[.slice none 0 0, .int .i64 (n : Int)]).run Tryz.prog w = .ok (.slice (some ⟨w.heap.size, 0, none⟩) n (grownCap w n 0 3)) (w.drew.alloc (.cells ((#[] : Array Value) ++ Builtin.zeroCells (Value.int .i64 0).cells n ++ Builtin.zeroCells (Value.int .i64 0).cells (grownCap w n 0 3 - n)) 3)) := fun ty => by
      have h := Lib.run_append_grow_zeros w 31 3 ty 3 i0 (.int .i64 0) .i64 .i64 Tryz.underlying31 Tryz.underlying3 hi hz0 none 0 0 [] (run_firstCells_none w.drew i0.size 0 0 0) n h0 (by omega) (by omega) (by omega) (by rw [hz2]; omega)
        (growslice_fits (by omega) (by rw [hz2]; omega))
      simpa using h
    have hG := grownCap_ge w n 0 3
    have hM := grownCap_le_maxLen w n 0 3 (by unfold maxLen; omega)
    have hszz : ((#[] : Array Value) ++ Builtin.zeroCells (Value.int .i64 0).cells n ++ Builtin.zeroCells (Value.int .i64 0).cells (grownCap w n 0 3 - n)).size = grownCap w n 0 3 * 1 := by
      have e1 : (Value.int .i64 0).cells.size = 1 := rfl
      simp [Builtin.zeroCells, e1]
      omega
    generalize grownCap w n 0 3 = G at hrz hG hM hszz
    generalize (#[] : Array Value) ++ Builtin.zeroCells (Value.int .i64 0).cells n ++ Builtin.zeroCells (Value.int .i64 0).cells (G - n) = cur at hrz hszz
    have HSZ := Lib.hid hszz
    clear hszz hi hz0 hz1 hz2
    have h1 : decide ((n : Int) > 0) = true := decide_eq_true (by omega)
    have h2 : (0 : Int) ≤ (G : Int) := by omega
    go_enter Tryz.func59, Tryz.ntmps59
    go_wp2_with (at_builtin; refine Lib.wpList_append_run _ rfl _ _ _ _ rfl _ _ rfl rfl _ _ (hrz _) ?_)
    go_ret
    exact ⟨_, G, rfl, ⟨by simp [enN], .inr ⟨w.heap.size, G, cur, rfl, Nat.le_refl _, heap_alloc_new w.drew _, Nat.zero_le _, hM, HSZ.out, by simp [enN]⟩⟩, ((Below.refl _ _).drew).alloc (Nat.le_refl _) _⟩
/-- how many places in rows -/
def tot (L : List (List Nat)) : Nat := L.flatten.length
theorem flat_take {L : List (List Nat)} {k : Nat} {r : List Nat} (h : L[k]? = some r) : (L.take (k + 1)).flatten = (L.take k).flatten ++ r := by
  rw [List.take_add_one, h]; simp
theorem flat_take_le (L : List (List Nat)) (k : Nat) : (L.take k).flatten.length ≤ L.flatten.length := by
  have h : L.flatten = (L.take k).flatten ++ (L.drop k).flatten := by rw [← List.flatten_append, List.take_append_drop]
  rw [h, List.length_append]; omega
set_option maxHeartbeats 2000000 in
set_option maxRecDepth 100000 in
theorem oconcat_any (a : Option Addr) (c : Nat) (L : List (List Nat)) (w : World) (h : Sl (RS RN 1) 1 w a L) (hm : L.flatten.length ≤ 1000000) :
    Calls Tryz.prog 30 #[.slice a L.length c] w (NewRow w L.flatten) := by
  have hlen := h.len
  have HL := Lib.hid h
  clear h
  go_enter Tryz.func30, Tryz.ntmps30
  go_wp2
  go_loop [3, 11] (fun sz i => ∃ k : Nat, k ≤ L.length ∧ i = .int .i64 k ∧ sz = .int .i64 (tot (L.take k) : Nat)) (fun _ i => L.length - (intOf i).toNat)
  case atStart => exact ⟨0, Nat.zero_le _, rfl, rfl⟩
  case round =>
    obtain ⟨k, hk, rfl, rfl⟩ := hrel
    by_cases hlt : k < L.length
    · obtain ⟨r, hr⟩ : ∃ r, L[k]? = some r := ⟨L[k], by simp [hlt]⟩
      obtain ⟨b, off, ra, rc, rfl, hbl, hbc, hrc, _⟩ := Sl.cellNs HL.out hr
      have e1 := congrArg List.length (flat_take hr)
      have e2 := flat_take_le L (k + 1)
      rw [List.length_append] at e1
      rw [e1] at e2
      change tot (L.take (k + 1)) = tot (L.take k) + r.length at e1
      change tot (L.take k) + r.length ≤ _ at e2
      have HE := Lib.hid e1
      clear e1 hr
      generalize tot (L.take k) = z at HE e2 ⊢
      have n1 : decide ((z : Int) + (r.length : Int) < 0) = false := decide_eq_false (by omega)
      go_wp2
      go_round
      case rel => exact ⟨k + 1, by omega, by go_num, by rw [HE.out]; go_num⟩
      case measure => simp [intOf]; omega
    · obtain rfl : k = L.length := by omega
      have hfl : (L.take L.length).flatten = L.flatten := by rw [List.take_length]
      obtain ⟨z, hz⟩ : ∃ z, z = L.flatten.length := ⟨_, rfl⟩
      have hz2 : tot (L.take L.length) = z := by rw [hz, ← hfl]; rfl
      rw [hz2]
      have HM := Lib.hid hm
      rw [← hz] at hm
      clear hz2 hz
      go_wp2_with fail
      (with_reducible refine (ogrow_any z _ hm).mono ?_)
      rintro e w1 ⟨ga, gc, rfl, hgo, hb1⟩
      have HGO := Lib.hid hgo
      have HB1 := Lib.hid hb1
      clear hgo hb1
      go_wp2
      go_loopw [6, 27] (fun s i wr => ∃ (k : Nat) (sa : Option Addr) (sc : Nat), k ≤ L.length ∧ i = .int .i64 k ∧ s = .slice sa (tot (L.take k)) sc ∧ OwnN wr w.heap.size sa sc (L.take k).flatten ∧ Below w.heap.size w wr) (fun _ i _ => L.length - (intOf i).toNat)
      case atStart => exact ⟨0, ga, gc, Nat.zero_le _, rfl, rfl, HGO.out, HB1.out⟩
      case round =>
        obtain ⟨k, sa, sc, hk, rfl, rfl, hso, hbr⟩ := hrel
        have HSO := Lib.hid hso
        have HBR := Lib.hid hbr
        clear hso hbr
        by_cases hlt : k < L.length
        · obtain ⟨r, hr⟩ : ∃ r, L[k]? = some r := ⟨L[k], by simp [hlt]⟩
          obtain ⟨b, off, ra, rc, rfl, hbl, hbc, hrc, hrs⟩ := Sl.cellNs (HL.out.below (stays_RS stays_RN) HBR.out) hr
          have e1 := flat_take hr
          have e2 := flat_take_le L (k + 1)
          have e3 := congrArg List.length e1
          rw [List.length_append] at e3
          rw [e3] at e2
          replace e2 := Nat.le_trans e2 HM.out
          have HE := Lib.hid e1
          have HE3 := Lib.hid e3
          have HRS := Lib.hid hrs
          have HRC := Lib.hid hrc
          have hbz := HBR.out.size
          clear e1 e3 hr hrs hrc
          have ht : tot (L.take k) = (L.take k).flatten.length := rfl
          rw [ht]
          clear ht
          generalize hq : (L.take k).flatten = q at HE HE3 HSO e2 ⊢
          clear hq
          go_wp2_with (at_builtin; refine wpList_append_flat (R := RN) Tryz.infoInt rfl (by decide) rfl (.tmp 31) (.tmp 32) 31 rfl Tryz.underlying31 w.heap.size _ _ _ (enN q) rfl HSO.out _ _ _ r rfl rfl HRS.out (RN.ones _) HRC.out.2 (by omega) (by omega) (by omega) ?_; intro a1 c1 w1 cells1 hown1 hF1 hg1 hB1; have hE := hF1.rn; subst hE; have HO1 := Lib.hid hown1; have HB1 := Lib.hid hB1; clear hown1 hF1 hg1 hB1)
          go_roundw
          case rel =>
            refine ⟨k + 1, a1, c1, by omega, by go_num, by rw [show tot (L.take (k + 1)) = (L.take (k + 1)).flatten.length from rfl, HE3.out], ?_, HBR.out.trans HB1.out⟩
            unfold OwnN
            rw [HE.out, enN_append, List.length_append]; exact HO1.out
          case measure => simp [intOf]; omega
        · obtain rfl : k = L.length := by omega
          have ht : tot (L.take L.length) = L.flatten.length := by unfold tot; rw [hfl]
          obtain ⟨q, hq⟩ : ∃ q, q = L.flatten := ⟨_, rfl⟩
          rw [ht, ← hq]
          rw [hfl] at HSO
          have HQ := Lib.hid hq
          clear hfl ht hq
          go_wp2
          go_ret
          have e := HQ.out
          subst e
          exact ⟨sa, sc, rfl, HSO.out.iv (Nat.le_refl _) (by have := HM.out; omega), HBR.out⟩
end Go.Proofs.YtnmcajinaigcjaaGreatDoor
namespace Go.Proofs.YtnmcajinaigcjaaGreatDoor
open Go.RowKit
open Q (It Ver Tm Sp Rc Dm)

set_option maxHeartbeats 1000000 in
theorem sameN_self (a b : Option Addr) (c d : Nat) (xs : List Nat) (w : World) (h1 : Sl RN 1 w a xs) (h2 : Sl RN 1 w b xs) :
    Calls Tryz.prog 12 #[.slice a xs.length c, .slice b xs.length d] w fun e w' => e = .returned (.bool true) ∧ Below w.heap.size w w' := by
  have hl := h1.len
  have H1 := Lib.hid h1
  have H2 := Lib.hid h2
  have n1 : ((xs.length : Int) != (xs.length : Int)) = false := by simp
  clear h1 h2
  go_enter Tryz.func12, Tryz.ntmps12
  go_wp2
  clear n1
  go_loopw [5, 13] (fun _ i wr => ∃ k : Nat, k ≤ xs.length ∧ i = .int .i64 k ∧ Below w.heap.size w wr) (fun _ i _ => xs.length - (intOf i).toNat)
  case atStart => exact ⟨0, by omega, rfl, Below.refl _ _⟩
  case round =>
    obtain ⟨k, hk, rfl, hbr⟩ := hrel
    by_cases hlt : k < xs.length
    · obtain ⟨x, hx⟩ : ∃ x, xs[k]? = some x := ⟨xs[k], by simp [hlt]⟩
      obtain ⟨b1, o1, rfl, hb1, c1⟩ := (H1.out.below (fun _ _ _ _ _ h => h) hbr).cellN hx
      obtain ⟨b2, o2, rfl, hb2, c2⟩ := (H2.out.below (fun _ _ _ _ _ h => h) hbr).cellN hx
      have HB := Lib.hid hbr
      clear hx hbr
      have nx : ((x : Int) != (x : Int)) = false := by simp
      go_wp2
      go_quiet (fail)
      go_wp2
      go_roundw
      case rel => exact ⟨k + 1, by omega, by go_num, ⟨HB.out.1, HB.out.2, HB.out.3, HB.out.4, HB.out.5⟩⟩
      case measure => simp [intOf]; omega
    · go_wp2
      go_ret
      exact ⟨rfl, hbr⟩
theorem sameN_at (a b : Option Addr) (n m c d : Nat) (xs : List Nat) (w : World) (hn : xs.length = n) (hm : xs.length = m) (h1 : Sl RN 1 w a xs) (h2 : Sl RN 1 w b xs) :
    Calls Tryz.prog 12 #[.slice a n c, .slice b m d] w fun e w' => e = .returned (.bool true) ∧ Below w.heap.size w w' := by
  subst hn; subst hm; exact sameN_self a b c d xs w h1 h2
/-- places that a text has just laid -/
theorem ints_made (W : World) (xs : List Nat) (t : TypeId) (n : Nat) (hn : W.heap.size = n) (cs : Array Value) (hcs : cs = (enN xs).toArray) (hx : xs.length ≤ 5864062014805) : Sl RN 1 (W.alloc (.cells cs t)) (some ⟨n, 0, none⟩) xs := by
  subst hn
  refine ⟨fun _ => ⟨_, 0, rfl, by simp, fun i x hi => ⟨[.int .i64 x], rfl, fun j hj => ?_, rfl⟩⟩, hx⟩
  obtain rfl : j = 0 := by omega
  rw [cell_of_cells (heap_alloc_new W _), hcs]
  simp [enN_get hi]
end Go.Proofs.YtnmcajinaigcjaaGreatDoor
namespace Go.Proofs.YtnmcajinaigcjaaGreatDoor
open Go.RowKit
open Q (It Ver Tm Sp Rc Dm)

def OfPost (l : List Rc) (ch : List Bool) (w : World) (e : Ending) (w' : World) : Prop :=
  ∃ la lc L, e = .returned (.tuple #[.slice la L.flatten.length lc, .nilIface]) ∧ Ordered l ch L ∧ Iv (RS RN 1) w.heap.size w'.heap.size w' [.slice la L.flatten.length lc] L.flatten ∧ Below w.heap.size w w'
set_option maxHeartbeats 1000000 in
theorem oOf_ok (ad : Addr) (a b : Option Addr) (c e : Nat) (l : List Rc) (ch : List Bool) (w : World) (hR : RIn w a b l ch) (hl : ch.length = l.length) (hm : l.length ≤ 60) (hE : ErrR w ad) :
    Calls Tryz.prog 8 #[.slice a l.length c, .slice b ch.length e] w (OfPost l ch w) := by
  have HC := Lib.hid (oRings_ok ad a b c e l ch w hR hl hm hE)
  clear hR hl hE
  go_enter Tryz.func8, Tryz.ntmps8
  go_wp2_with fail
  (with_reducible refine HC.out.mono ?_)
  rintro e1 w2 ⟨la, lc, L, rfl, hL, hiv, hb⟩
  have hfl := hL.1.len
  have HL := Lib.hid hL
  have HB := Lib.hid hb
  have hsl : Sl (RS RN 1) 1 w2 la L := by
    obtain ⟨a', c', e1, _, h2⟩ := hiv.read
    cases e1
    exact h2
  have HS := Lib.hid hsl
  clear hL hiv hb hsl
  go_wp2_with fail
  (with_reducible refine (oconcat_any la lc L w2 HS.out (by omega)).mono ?_)
  rintro e1 w3 ⟨a3, c3, rfl, hiv3, hb3⟩
  have HIV := Lib.hid hiv3
  have HB3 := Lib.hid hb3
  clear hiv3 hb3
  obtain ⟨z, hz⟩ : ∃ z, z = L.flatten.length := ⟨_, rfl⟩
  rw [← hz]
  have HZ := Lib.hid hz
  clear hz
  go_wp2
  go_ret2
  obtain rfl := HZ.out
  exact ⟨a3, c3, L, rfl, HL.out, HIV.out.wide HB.out.size (Nat.le_refl _) (Nat.le_refl _), fin HB.out HB3.out⟩
end Go.Proofs.YtnmcajinaigcjaaGreatDoor
namespace Go.Proofs.YtnmcajinaigcjaaGreatDoor
open Go.RowKit
open Q (It Ver Tm Sp Rc Dm)

def RJ : Rd Int := fun _ us z => us = [.int .i64 z]
theorem Sl.cellZ {w : World} {a : Option Addr} {xs : List Int} (h : Sl RJ 1 w a xs) {i : Nat} {x : Int} (hx : xs[i]? = some x) : ∃ b off, a = some ⟨b, off, none⟩ ∧ b < w.heap.size ∧ w.cell? ⟨b, off + i, none⟩ = some (.int .i64 x) := by
  obtain ⟨b, off, e, hlt, hc⟩ := h.addr (by have := (List.getElem?_eq_some_iff.1 hx).1; omega)
  obtain ⟨us, u1, u2, u3⟩ := hc i x hx
  have c0 := u2 0 (by omega)
  rw [u3] at c0
  exact ⟨b, off, e, hlt, by simpa using c0⟩
theorem stays_RJ : Stays RJ := fun _ _ _ _ _ h => h
theorem Sl.zs {w : World} {a : Option Addr} {ps : List Nat} (h : Sl RN 1 w a ps) : Sl RJ 1 w a (ps.map fun k : Nat => (k : Int)) := by
  refine ⟨fun h0 => ?_, by have := h.len; simpa using this⟩
  obtain ⟨b, off, e, hlt, hc⟩ := h.addr (by simpa using h0)
  refine ⟨b, off, e, hlt, fun i x hx => ?_⟩
  rw [List.getElem?_map] at hx
  cases hp : ps[i]? with
  | none => rw [hp] at hx; cases hx
  | some p =>
    rw [hp] at hx
    cases hx
    exact hc i p hp
/-- the map says where each one stands -/
structure PosF (ps : List Nat) (m : Nat) (f : Nat → Option Nat) : Prop where
  some_ : ∀ x, (f x).isSome = ps.contains x
  at_ : ∀ x v, f x = some v → ps[v]? = some x
  le : m ≤ ps.length
  nd : m = ps.length ↔ ps.Nodup
theorem PosF.start : PosF [] 0 fun _ => none := ⟨fun _ => rfl, fun _ _ h => (by cases h), Nat.le_refl _, by simp⟩
theorem PosF.put {ps : List Nat} {m : Nat} {f : Nat → Option Nat} (h : PosF ps m f) (x : Nat) : PosF (ps ++ [x]) (if (f x).isSome then m else m + 1) (fput f x ps.length) := by
  have hc := h.some_ x
  have hle := h.le
  have hmem : (f x).isSome = true ↔ x ∈ ps := by rw [hc]; simp
  refine ⟨fun y => ?_, fun y v hv => ?_, ?_, ?_⟩
  · unfold fput
    by_cases e : y = x
    · subst e; simp
    · rw [if_neg e, h.some_ y]; simp [e]
  · unfold fput at hv
    by_cases e : y = x
    · rw [if_pos e] at hv; cases hv; subst e; simp
    · rw [if_neg e] at hv
      have h1 := h.at_ y v hv
      rw [List.getElem?_append_left (List.getElem?_eq_some_iff.1 h1).1]; exact h1
  · rw [List.length_append, List.length_singleton]; split <;> omega
  · rw [List.length_append, List.length_singleton, List.nodup_append]
    by_cases hx : (f x).isSome = true
    · rw [if_pos hx]
      have hx2 := hmem.1 hx
      constructor
      · intro e; omega
      · rintro ⟨_, _, h3⟩; exact absurd rfl (h3 x hx2 x (by simp))
    · rw [if_neg hx]
      have hx2 : x ∉ ps := fun e => hx (hmem.2 e)
      constructor
      · intro e
        refine ⟨h.nd.1 (by omega), by simp, fun a ha b hb e2 => ?_⟩
        simp at hb; subst hb; subst e2; exact hx2 ha
      · rintro ⟨h1, _, _⟩
        have := h.nd.2 h1; omega
theorem PosF.ix {ps : List Nat} {m : Nat} {f : Nat → Option Nat} (h : PosF ps m f) (hn : ps.Nodup) {x : Nat} (hx : x ∈ ps) : (f x).getD 0 = ps.idxOf x := by
  have h1 : (f x).isSome = true := by rw [h.some_]; simpa using hx
  obtain ⟨v, hv⟩ := Option.isSome_iff_exists.1 h1
  rw [hv]
  obtain ⟨h2, h3⟩ := List.getElem?_eq_some_iff.1 (h.at_ x v hv)
  have := hn.idxOf_getElem v h2
  rw [h3] at this; rw [this]; rfl
/-- what Behind asks of places -/
def BehI (l : List Rc) (ch : List Bool) (zs : List Int) : Prop := ∃ ps : List Nat, zs = ps.map (fun k : Nat => (k : Int)) ∧ O.BehP (O.chB ch) (O.ndB l ch) l.length ps
theorem BehI.ok {l : List Rc} {ch : List Bool} {zs : List Int} (h : BehI l ch zs) {k : Nat} {z : Int} (hz : zs[k]? = some z) : ∃ x : Nat, z = x ∧ x < l.length ∧ O.chB ch x = true := by
  obtain ⟨ps, rfl, hp⟩ := h
  rw [List.getElem?_map] at hz
  cases hx : ps[k]? with
  | none => rw [hx] at hz; cases hz
  | some x =>
    rw [hx] at hz; cases hz
    exact ⟨x, rfl, hp.ok x (List.mem_of_getElem? hx)⟩
theorem map_int_inj {p q : List Nat} (h : p.map (fun k : Nat => (k : Int)) = q.map fun k : Nat => (k : Int)) : p = q := by
  have h2 := congrArg (List.map Int.toNat) h
  simpa [List.map_map, Function.comp_def] using h2
theorem MapN.len {w : World} {B k m : Nat} {f : Nat → Option Nat} (h : MapN w B k m f) (ty : TypeId) : (Builtin.len_ #[76] ty #[.map (some B)]).run Tryz.prog w = .ok (.int .i64 (m : Int)) w := by
  obtain ⟨D, h1, h0, _⟩ := h
  have := h1.len Tryz.underlying76 ty
  rw [h0] at this; exact this
/-- .. of the first k -/
def BTo (l : List Rc) (ch : List Bool) (ps : List Nat) (k : Nat) : Prop := ∀ i j, i < k → O.ndB l ch i j = true → O.same (O.ndB l ch) i j = true ∨ ps.idxOf j ≤ ps.idxOf i
def BIn (l : List Rc) (ch : List Bool) (ps : List Nat) (i : Nat) (js : List Nat) : Prop := ∀ j ∈ js, O.same (O.ndB l ch) i j = true ∨ ps.idxOf j ≤ ps.idxOf i
theorem BIn.next {l : List Rc} {ch : List Bool} {ps : List Nat} {i b y : Nat} {js : List Nat} (h : BIn l ch ps i (js.take b)) (hy : js[b]? = some y) (h1 : O.same (O.ndB l ch) i y = true ∨ ps.idxOf y ≤ ps.idxOf i) : BIn l ch ps i (js.take (b + 1)) := by
  intro j hj
  rw [List.take_add_one, hy] at hj
  rcases List.mem_append.1 hj with h2 | h2
  · exact h j h2
  · simp at h2; subst h2; exact h1
theorem BTo.next {l : List Rc} {ch : List Bool} {ps : List Nat} {k : Nat} (h : BTo l ch ps k) (h1 : BIn l ch ps k (O.needs l ch k)) : BTo l ch ps (k + 1) := by
  intro i j hi hij
  rcases Nat.lt_or_ge i k with h2 | h2
  · exact h i j h2 hij
  · obtain rfl : i = k := by omega
    exact h1 j (O.mem_needs.2 hij)
def BehPost (l : List Rc) (ch : List Bool) (zs : List Int) (w : World) (e : Ending) (w' : World) : Prop := ∃ v, e = .returned (.bool v) ∧ (v = true ↔ BehI l ch zs) ∧ Below w.heap.size w w'
theorem false_iff_not {p : Prop} (h : ¬ p) : (false = true ↔ p) := ⟨fun h1 => (by cases h1), fun h1 => absurd h1 h⟩
end Go.Proofs.YtnmcajinaigcjaaGreatDoor
namespace Go.Proofs.YtnmcajinaigcjaaGreatDoor
open Go.RowKit
open Q (It Ver Tm Sp Rc Dm)

def tA : ByteArray := ⟨#[97]⟩
def tB : ByteArray := ⟨#[98]⟩
def tC : ByteArray := ⟨#[99]⟩
theorem szT (c : UInt8) : SzS ⟨#[c]⟩ := by unfold SzS; show 1 ≤ _; omega
def l23 : List Rc := [rcN tA 0 [freeSp tB], rcN tB 0 [freeSp tC], rcN tC 0 [freeSp tB]]
theorem asks23 (i j : Nat) : O.asks l23 i j = true ↔ (i = 0 ∧ j = 1) ∨ (i = 1 ∧ j = 2) ∨ (i = 2 ∧ j = 1) := by
  have e1 : ∀ i, 3 ≤ i → l23[i]? = none := fun i h => List.getElem?_eq_none (by simpa [l23] using h)
  have m1 : ∀ x y : ByteArray, ∀ d, Q.mt (freeSp x) (rcN y 0 d) = (x.toList == y.toList) := fun x y d => mt_free x _
  have bA : tA.toList = [97] := by unfold tA; rw [ByteArray.toList_eq]
  have bB : tB.toList = [98] := by unfold tB; rw [ByteArray.toList_eq]
  have bC : tC.toList = [99] := by unfold tC; rw [ByteArray.toList_eq]
  rcases Nat.lt_or_ge i 3 with hi | hi
  · rcases Nat.lt_or_ge j 3 with hj | hj
    · obtain rfl | rfl | rfl : i = 0 ∨ i = 1 ∨ i = 2 := by omega
      all_goals obtain rfl | rfl | rfl : j = 0 ∨ j = 1 ∨ j = 2 := by omega
      all_goals
        simp only [O.asks, l23, List.getElem?_cons_zero, List.getElem?_cons_succ]
        simp [rcN]
        rw [mt_free]
        simp [bA, bB, bC]
    · have : O.asks l23 i j = false := by
        cases h : O.asks l23 i j
        · rfl
        · have := (O.asks_lt h).2; simp [l23] at this; omega
      rw [this]
      constructor
      · intro h; cases h
      · intro h; omega
  · have : O.asks l23 i j = false := by
      cases h : O.asks l23 i j
      · rfl
      · have := (O.asks_lt h).1; simp [l23] at this; omega
    rw [this]
    constructor
    · intro h; cases h
    · intro h; omega
theorem ordered23 {L : List (List Nat)} (h : Ordered l23 [true, true, true] L) : L = [[1, 2], [0]] := by
  have hch : ∀ i, i < 3 → O.chB [true, true, true] i = true := fun i hi => by
    obtain rfl | rfl | rfl : i = 0 ∨ i = 1 ∨ i = 2 := by omega
    all_goals rfl
  obtain ⟨h1, h2⟩ := O.ex_order (O.ord l23) hch (nd := O.ndB l23 [true, true, true]) (fun i j => by
    have ha := asks23 i j
    unfold O.ndB
    constructor
    · intro h
      simp only [Bool.and_eq_true] at h
      exact ha.1 h.2.2
    · intro h
      rw [ha.2 h]
      obtain ⟨rfl, rfl⟩ | ⟨rfl, rfl⟩ | ⟨rfl, rfl⟩ := h
      all_goals rfl) (by
    rw [O.lt_iff]
    left
    have bB : tB.toList = [98] := by unfold tB; rw [ByteArray.toList_eq]
    have bC : tC.toList = [99] := by unfold tC; rw [ByteArray.toList_eq]
    show Q.less tB.toList tC.toList = true
    rw [bB, bC]
    rfl)
  exact O.Chain.uniq (O.ord l23) h.1 h1 h.2 h2
theorem r23 (ad : Addr) (W : World) (a b : Option Addr) (hR : Sl RRc 13 W a l23) (hO : Bools W b [true, true, true]) (hE : ErrR W ad) :
    Calls Tryz.prog 7 #[.slice a 3 3, .slice b 3 3] W fun e w' => ∃ la lc, e = .returned (.tuple #[.slice la 2 lc, .nilIface]) ∧ Sl (RS RN 1) 1 w' la [[1, 2], [0]] ∧ Below W.heap.size W w' := by
  refine (oRings_ok ad a b 3 3 l23 [true, true, true] W ⟨hR, hO⟩ rfl (by decide) hE).mono ?_
  rintro e w' ⟨la, lc, L, rfl, hL, hiv, hb⟩
  obtain rfl := ordered23 hL
  refine ⟨la, lc, rfl, ?_, hb⟩
  obtain ⟨a', c', e1, _, h2⟩ := hiv.read
  cases e1
  exact h2
set_option maxHeartbeats 1000000 in
theorem need_any (nm : ByteArray) (hn : SzS nm) (w : World) :
    Calls Tryz.prog 21 #[.string nm] w fun e w' => ∃ g, e = .returned (.slice (some ⟨g, 0, none⟩) 1 1) ∧ Sl RSp 5 w' (some ⟨g, 0, none⟩) [freeSp nm] ∧ Below w.heap.size w w' := by
  go_enter Tryz.func21, Tryz.ntmps21
  go_wp2_with fail
  refine (free_any _ _).mono ?_
  rintro e w2 ⟨ra, rfl, hsp, hb2⟩
  have HSP := Lib.hid hsp
  have HB2 := Lib.hid hb2
  clear hsp hb2
  go_wp2
  go_ret
  have hra : (1 : Nat) ≤ 1 ∧ (ra = none → 1 = 0) := by
    refine ⟨Nat.le_refl _, fun e => ?_⟩
    obtain ⟨b, off, e2, _⟩ := HSP.out.rows.addr (by simp [freeSp])
    rw [e] at e2; cases e2
  refine ⟨w2.heap.size, rfl, sl_made (R := RSp) (k := 5) w2 [freeSp nm] [[.string ⟨#[]⟩, .string nm, .slice ra 1 1, .string ⟨#[]⟩, .int .i64 (-1)]] 53 _ rfl _ rfl rfl (by simp) ?_ (by simp), fin HB2.out (b1 _ _)⟩
  intro i x us hx hu
  match i, hx, hu with
  | 0, hx, hu =>
    simp at hx hu; subst hx hu
    exact ⟨rfl, _, rfl, Nat.zero_le _, hn, Nat.zero_le _, (by show -9223372036854775808 ≤ (-1 : Int) ∧ (-1 : Int) ≤ 9223372036854775807; omega), ⟨ra, 1, rfl, hra, (HSP.out.below (b1 _ _)).rows⟩⟩
  | n + 1, hx, hu => simp at hx
set_option maxHeartbeats 2000000 in
set_option maxRecDepth 100000 in
theorem alive23 (ad : Addr) (w : World) (hE : ErrR w ad) :
    Calls Tryz.prog 5 #[] w fun e w' => e = .returned (.bool true) ∧ Below w.heap.size w w' := by
  have HE := Lib.hid hE
  clear hE
  go_enter Tryz.func5, Tryz.ntmps5
  go_wp2_with fail
  (with_reducible refine (need_any _ (szT 98) _).mono ?_)
  rintro e w2 ⟨g1, rfl, hs1, hb1⟩
  have HS1 := Lib.hid hs1
  have HB1 := Lib.hid hb1
  clear hs1 hb1
  go_wp2_with fail
  (with_reducible refine (need_any _ (szT 99) _).mono ?_)
  rintro e w3 ⟨g2, rfl, hs2, hb2⟩
  have HS2 := Lib.hid hs2
  have HB2 := Lib.hid hb2
  clear hs2 hb2
  go_wp2_with fail
  (with_reducible refine (need_any _ (szT 98) _).mono ?_)
  rintro e w4 ⟨g3, rfl, hs3, hb3⟩
  have HS3 := Lib.hid hs3
  have HB3 := Lib.hid hb3
  clear hs3 hb3
  have hz1 := HB1.out.size
  have hz2 := HB2.out.size
  have hz3 := HB3.out.size
  have HB := Lib.hid (fin (fin HB1.out HB2.out) HB3.out)
  go_wp2_with fail
  (with_reducible refine (r23 ad _ _ _ ?_ ?_ ?_).mono ?_)
  · refine (sl_made (R := RRc) (k := 13) w4 l23 [[.string ⟨#[]⟩, .string ⟨#[]⟩, .string tA, .string ⟨#[]⟩, .int .i64 0, .slice none 0 0, .slice none 0 0, .string ⟨#[]⟩, .int .i64 0, .int .i64 0, .slice (some ⟨g1, 0, none⟩) 1 1, .slice none 0 0, .slice none 0 0], [.string ⟨#[]⟩, .string ⟨#[]⟩, .string tB, .string ⟨#[]⟩, .int .i64 0, .slice none 0 0, .slice none 0 0, .string ⟨#[]⟩, .int .i64 0, .int .i64 0, .slice (some ⟨g2, 0, none⟩) 1 1, .slice none 0 0, .slice none 0 0], [.string ⟨#[]⟩, .string ⟨#[]⟩, .string tC, .string ⟨#[]⟩, .int .i64 0, .slice none 0 0, .slice none 0 0, .string ⟨#[]⟩, .int .i64 0, .int .i64 0, .slice (some ⟨g3, 0, none⟩) 1 1, .slice none 0 0, .slice none 0 0]] 69 _ rfl _ rfl rfl (by decide) ?_ (by simp)).below stays_RRc (b1 _ _)
    have hi0 : I64 0 := by show -9223372036854775808 ≤ (0 : Int) ∧ (0 : Int) ≤ 9223372036854775807; omega
    intro i x us hx hu
    match i, hx, hu with
    | 0, hx, hu => simp [l23] at hx hu; subst hx hu; exact ⟨rfl, rrc _ _ (szT 97) 0 hi0 _ _ ⟨_, 1, rfl, ⟨Nat.le_refl _, fun e => by cases e⟩, ((HS1.out.below stays_RSp HB2.out).below stays_RSp HB3.out).below stays_RSp (b1 _ _)⟩⟩
    | 1, hx, hu => simp [l23] at hx hu; subst hx hu; exact ⟨rfl, rrc _ _ (szT 98) 0 hi0 _ _ ⟨_, 1, rfl, ⟨Nat.le_refl _, fun e => by cases e⟩, (HS2.out.below stays_RSp HB3.out).below stays_RSp (b1 _ _)⟩⟩
    | 2, hx, hu => simp [l23] at hx hu; subst hx hu; exact ⟨rfl, rrc _ _ (szT 99) 0 hi0 _ _ ⟨_, 1, rfl, ⟨Nat.le_refl _, fun e => by cases e⟩, HS3.out.below stays_RSp (b1 _ _)⟩⟩
    | n + 3, hx, hu => simp [l23] at hx
  · exact bools_made _ [true, true, true] _ _ (by simp) _ rfl (by simp)
  · exact ((((HE.out.below HB1.out).below HB2.out).below HB3.out).below (b1 _ _)).below (b1 _ _)
  rintro e w5 ⟨la, lc, rfl, hsl, hb5⟩
  have hb5' : Below w4.heap.size w4 w5 := fin ((b1 w4 _).alloc (by simp) _) hb5
  obtain ⟨lb, lo, a0, c0, rfl, hlb, hc0, hq0, hs0⟩ := Sl.cellNs hsl (i := 0) (x := [1, 2]) rfl
  have HSL := Lib.hid hsl
  have HS0 := Lib.hid hs0
  have HB5 := Lib.hid hb5'
  have hc0' : w5.cell? ⟨lb, lo, none⟩ = some (.slice a0 2 c0) := hc0
  clear hsl hs0 hb5 hb5' hc0
  go_wp2_with fail
  (with_reducible refine (sameN_at _ _ 2 2 _ _ [1, 2] _ rfl rfl (HS0.out.below stays_RN (b1 _ _)) (ints_made w5 [1, 2] _ _ rfl #[.int .i64 1, .int .i64 2] (by simp [enN]) (by decide))).mono ?_)
  rintro e w6 ⟨rfl, hb6⟩
  have hb6' : Below w5.heap.size w5 w6 := fin (b1 w5 _) hb6
  obtain ⟨lb2, lo2, a1, c1, e1, hlb2, hc1, hq1, hs1⟩ := Sl.cellNs (HSL.out.below (stays_RS stays_RN) hb6') (i := 1) (x := [0]) rfl
  cases e1
  have hc1' : w6.cell? ⟨lb, lo + 1, none⟩ = some (.slice a1 1 c1) := hc1
  have HSN := Lib.hid hs1
  have HB6 := Lib.hid hb6'
  clear hs1 hb6 hb6' hc1 hc0'
  go_wp2_with fail
  (with_reducible refine (sameN_at _ _ 1 1 _ _ [0] _ rfl rfl (HSN.out.below stays_RN (b1 _ _)) (ints_made w6 [0] _ _ rfl #[.int .i64 0] (by simp [enN]) (by decide))).mono ?_)
  rintro e w7 ⟨rfl, hb7⟩
  have HB7 := Lib.hid (fin (fin (fin HB.out HB5.out) HB6.out) (fin (b1 w6 _) hb7))
  clear hb7
  go_wp2
  go_ret
  exact ⟨ret_bool rfl, HB7.out⟩
end Go.Proofs.YtnmcajinaigcjaaGreatDoor

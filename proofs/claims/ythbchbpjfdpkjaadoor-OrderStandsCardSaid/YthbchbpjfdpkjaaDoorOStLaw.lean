/- The law OrderStands, walked. -/
import Derived.Test.YthbchbpjfdpkjaaDoorOC
import Derived.Test.YthbchbpjfdpkjaaDoorQBigAll
namespace Go.Proofs.YthbchbpjfdpkjaaDoor
open Go.RowKit
open Q (It Ver Tm Sp Rc Dm)

/-- the map says in which ring each one stands, of the first p rings and q of the next -/
structure AtI (L : List (List Nat)) (p q : Nat) (f : Nat → Option Nat) : Prop where
  at_ : ∀ x v, f x = some v → ∃ r, L[v]? = some r ∧ x ∈ r
  in1 : ∀ x ∈ (L.take p).flatten, (f x).isSome = true
  in2 : ∀ r, L[p]? = some r → ∀ x ∈ r.take q, (f x).isSome = true
theorem AtI.start (L : List (List Nat)) : AtI L 0 0 fun _ => none := ⟨fun _ _ h => (by cases h), by simp, fun _ _ _ h => by simp at h⟩
theorem fput_some {f : Nat → Option Nat} {x y v : Nat} (h : (f y).isSome = true) : (fput f x v y).isSome = true := by
  unfold fput; split
  · rfl
  · exact h
theorem fput_at {f : Nat → Option Nat} {x v : Nat} : (fput f x v x).isSome = true := by unfold fput; rw [if_pos rfl]; rfl
theorem AtI.put {L : List (List Nat)} {p q x : Nat} {r : List Nat} {f : Nat → Option Nat} (h : AtI L p q f) (hr : L[p]? = some r) (hx : r[q]? = some x) : AtI L p (q + 1) (fput f x p) := by
  refine ⟨fun y v hv => ?_, fun y hy => fput_some (h.in1 y hy), fun r' hr' y hy => ?_⟩
  · unfold fput at hv
    by_cases e : y = x
    · rw [if_pos e] at hv; cases hv; subst e; exact ⟨r, hr, List.mem_of_getElem? hx⟩
    · rw [if_neg e] at hv; exact h.at_ y v hv
  · rw [hr] at hr'; cases hr'
    rw [List.take_add_one, hx] at hy
    rcases List.mem_append.1 hy with h1 | h1
    · exact fput_some (h.in2 r hr y h1)
    · simp at h1; subst h1; exact fput_at
theorem AtI.next {L : List (List Nat)} {p : Nat} {r : List Nat} {f : Nat → Option Nat} (h : AtI L p r.length f) (hr : L[p]? = some r) : AtI L (p + 1) 0 f := by
  refine ⟨h.at_, fun y hy => ?_, fun _ _ _ h => by simp at h⟩
  rw [flat_take hr] at hy
  rcases List.mem_append.1 hy with h1 | h1
  · exact h.in1 y h1
  · exact h.in2 r hr y (by rwa [List.take_length])
theorem AtI.le {l : List Rc} {ch : List Bool} {L : List (List Nat)} {f : Nat → Option Nat} (h : AtI L L.length 0 f) (hL : Ordered l ch L) {i j : Nat} (hij : O.ndB l ch i j = true) : (f j).getD 0 ≤ (f i).getD 0 := by
  have hn := O.hnd l ch i j hij
  have hin : ∀ x, x < l.length → O.chB ch x = true → ∃ v r, f x = some v ∧ L[v]? = some r ∧ x ∈ r := fun x hx hc => by
    have h1 := h.in1 x (by rw [List.take_length]; exact O.all_told (O.hnd l ch) hL.2 x hx hc)
    obtain ⟨v, hv⟩ := Option.isSome_iff_exists.1 h1
    obtain ⟨r, hr, hxr⟩ := h.at_ x v hv
    exact ⟨v, r, hv, hr, hxr⟩
  obtain ⟨v1, r1, e1, hr1, hx1⟩ := hin i hn.1.1 hn.1.2
  obtain ⟨v2, r2, e2, hr2, hx2⟩ := hin j hn.2.1 hn.2.2
  rw [e1, e2]
  exact O.stands_at (O.hnd l ch) hL.1 hr1 hx1 hr2 hx2 hij
theorem tot_succ {L : List (List Nat)} {k : Nat} {r : List Nat} (h : L[k]? = some r) : tot (L.take (k + 1)) = tot (L.take k) + r.length := by
  unfold tot; rw [flat_take h, List.length_append]
theorem tot_le (L : List (List Nat)) (k : Nat) : tot (L.take k) ≤ tot L := flat_take_le L k
theorem tot_at {L : List (List Nat)} {k q x : Nat} {r : List Nat} (h : L[k]? = some r) (hx : r[q]? = some x) : L.flatten[tot (L.take k) + q]? = some x := by
  have hk := (List.getElem?_eq_some_iff.1 h).1
  have e : L.flatten = (L.take k).flatten ++ (L.drop k).flatten := by rw [← List.flatten_append, List.take_append_drop]
  have e2 : L.drop k = r :: L.drop (k + 1) := by
    rw [List.drop_eq_getElem_cons hk]
    congr 1
    exact (List.getElem?_eq_some_iff.1 h).2
  unfold tot
  rw [e, List.getElem?_append_right (by omega), Nat.add_sub_cancel_left, e2, List.flatten_cons, List.getElem?_append_left (List.getElem?_eq_some_iff.1 hx).1]
  exact hx
set_option maxHeartbeats 8000000 in
set_option maxRecDepth 100000 in
theorem standsLaw (ad : Addr) (a b : Option Addr) (c e : Nat) (l : List Rc) (ch : List Bool) (w : World) (hR : RIn w a b l ch) (hA : ErrR w ad) :
    Calls Tryd.prog 4 #[.slice a l.length c, .slice b ch.length e] w fun e w' => e = .returned (.bool true) ∧ Below w.heap.size w w' := by
  have HR := Lib.hid hR
  have HA := Lib.hid hA
  have hmm := @run_makeMap Tryd.prog
  clear hR hA
  go_enter Tryd.func4, Tryd.ntmps4
  go_wp2_with fail
  (with_reducible refine (alive23 ad _ HA.out).mono ?_)
  rintro e1 w1 ⟨rfl, hb⟩
  have HB1 := Lib.hid hb
  clear hb
  go_wp2_with fail
  (with_reducible refine (bigAll_any a c l 40 _ (HR.out.below HB1.out).recs (by omega)).mono ?_)
  rintro e1 w2 ⟨q, rfl, hq, hb⟩
  have HB2 := Lib.hid (fin HB1.out hb)
  clear hb
  cases q
  case true =>
    go_wp2
    go_ret
    exact ⟨rfl, HB2.out⟩
  have h40 := hq rfl
  clear hq
  by_cases h1 : ch.length = l.length
  case neg =>
    have n1 : ((ch.length : Int) != (l.length : Int)) = true := by rw [bne_iff_ne]; omega
    go_wp2
    go_ret
    exact ⟨rfl, HB2.out⟩
  have n1 : ((ch.length : Int) != (l.length : Int)) = false := by simp [h1]
  have HL := Lib.hid h1
  clear h1
  go_wp2_with fail
  (with_reducible refine (oOf_ok ad a b c e l ch _ (HR.out.below HB2.out) HL.out (by omega) (HA.out.below HB2.out)).mono ?_)
  rintro e1 w3 ⟨oa, oc, L, rfl, hL, hiv, hb⟩
  obtain ⟨z, hz⟩ : ∃ z, z = L.flatten.length := ⟨_, rfl⟩
  have hzl : z ≤ 40 := by have := hL.1.len; omega
  have hO : Sl RN 1 w3 oa L.flatten := by
    obtain ⟨a', c', e1, _, h2⟩ := hiv.read
    cases e1
    exact h2
  rw [← hz]
  have HL0 := Lib.hid hL
  have HZ := Lib.hid hz
  have HO := Lib.hid hO
  have HB3 := Lib.hid (fin HB2.out hb)
  clear hL hz hO hiv hb
  go_wp2_with fail
  (with_reducible refine (oRings_ok ad a b c e l ch _ (HR.out.below HB3.out) HL.out (by omega) (HA.out.below HB3.out)).mono ?_)
  rintro e1 w4 ⟨ra, rc, L2, rfl, hL2, hiv, hb⟩
  obtain rfl := O.Chain.uniq (O.ord l) HL0.out.1 hL2.1 HL0.out.2 hL2.2
  have hll : L.length ≤ 40 := by
    have h1 : ∀ L : List (List Nat), (∀ r ∈ L, r ≠ []) → L.length ≤ L.flatten.length := by
      intro L
      induction L with
      | nil => simp
      | cons r L ih =>
        intro h
        have := ih fun r hr => h r (by simp [hr])
        have := List.length_pos_iff.2 (h r (by simp))
        rw [List.flatten_cons, List.length_append, List.length_cons]; omega
    have h2 := h1 L fun r hr => by
      obtain ⟨q, hq⟩ := List.getElem?_of_mem hr
      exact (hL2.1.nth hq).ne
    have := HZ.out
    omega
  have hRg : Sl (RS RN 1) 1 w4 ra L := by
    obtain ⟨a', c', e1, _, h2⟩ := hiv.read
    cases e1
    exact h2
  have hO4 := HO.out.below stays_RN hb
  have hbh := oBehind_any ad a b oa c e oc l ch (L.flatten.map fun k : Nat => (k : Int)) w4 (HR.out.below (fin HB3.out hb)) HL.out (by omega) (HA.out.below (fin HB3.out hb)) hO4.zs (by rw [List.length_map]; have := HZ.out; omega)
  rw [List.length_map, ← HZ.out] at hbh
  have HBH := Lib.hid hbh
  have HRG := Lib.hid hRg
  have HO4 := Lib.hid hO4
  have HB4 := Lib.hid (fin HB3.out hb)
  clear hL2 hRg hO4 hbh hb hiv
  go_wp2_with fail
  (with_reducible refine HBH.out.mono ?_)
  rintro e1 w5 ⟨v, rfl, hv, hb⟩
  have hvt : v = true := hv.2 ⟨L.flatten, rfl, O.beh_of_order (O.hnd l ch) HL0.out.1 HL0.out.2⟩
  subst hvt
  have HRG5 := Lib.hid (HRG.out.below (stays_RS stays_RN) hb)
  have HO5 := Lib.hid (HO4.out.below stays_RN hb)
  have HB5 := Lib.hid (fin HB4.out hb)
  clear hv hb HRG HO4 HBH HO
  have htl : tot L = z := HZ.out.symm
  have HTL := Lib.hid htl
  clear htl
  go_wp2
  go_loopw [10, 57] (fun nn i wr => ∃ (p m : Nat) (f : Nat → Option Nat), p ≤ L.length ∧ i = .int .i64 p ∧ nn = .int .i64 (tot (L.take p) : Nat) ∧ MapN wr w5.heap.size (tot (L.take p)) m f ∧ AtI L p 0 f ∧ Below w5.heap.size w5 wr) (fun _ i _ => L.length - (intOf i).toNat)
  case atStart => exact ⟨0, 0, _, Nat.zero_le _, rfl, rfl, MapN.made _, AtI.start L, b1 _ _⟩
  case round =>
    obtain ⟨p, m, f, hp, rfl, rfl, hmn, hai, hbr⟩ := hrel
    have HMN := Lib.hid hmn
    have HAI := Lib.hid hai
    have HB := Lib.hid hbr
    clear hmn hai hbr
    by_cases hlt : p < L.length
    · obtain ⟨r, hr⟩ : ∃ r, L[p]? = some r := ⟨L[p], by simp [hlt]⟩
      have hts := tot_succ hr
      have htl := tot_le L (p + 1)
      rw [hts, HTL.out] at htl
      obtain ⟨rb, ro, ra1, rc1, rfl, hrb, hrc5, _, hrr⟩ := Sl.cellNs HRG5.out hr
      have hrc := (HB.out.cell (p := ⟨rb, ro + p, none⟩) hrb).trans hrc5
      have hrb2 : rb < wr.heap.size := Nat.lt_of_lt_of_le hrb HB.out.size
      have HTS := Lib.hid hts
      have HTA := Lib.hid (fun (q x : Nat) (hx : r[q]? = some x) => tot_at hr hx)
      have HRR := Lib.hid hrr
      have HR0 := Lib.hid hr
      clear hts hr hrr hrc5
      generalize tot (L.take p) = t at HTS HTA htl HMN ⊢
      go_wp2
      go_loopw [10, 64] (fun nn j w6 => ∃ (q s m' : Nat) (f' : Nat → Option Nat), q ≤ r.length ∧ j = .int .i64 q ∧ s = t + q ∧ nn = .int .i64 (s : Nat) ∧ MapN w6 w5.heap.size s m' f' ∧ AtI L p q f' ∧ Below w5.heap.size w5 w6) (fun _ j _ => r.length - (intOf j).toNat)
      case atStart => exact ⟨0, t, m, f, Nat.zero_le _, rfl, rfl, rfl, HMN.out, HAI.out, HB.out⟩
      case round =>
        obtain ⟨q, s, m', f', hq, rfl, hs, rfl, hmn, hai, hbr⟩ := hrel
        rename World => w6
        have HMN6 := Lib.hid hmn
        have HAI6 := Lib.hid hai
        have HB6 := Lib.hid hbr
        have HS := Lib.hid hs
        clear hmn hai hbr hs
        by_cases hlq : q < r.length
        · obtain ⟨x, hx⟩ : ∃ x, r[q]? = some x := ⟨r[q], by simp [hlq]⟩
          obtain ⟨ib, io, rfl, hib, hix⟩ := Sl.cellN (HRR.out.below stays_RN HB6.out) hx
          obtain ⟨ob, oo, rfl, hob, hox5⟩ := Sl.cellN HO5.out (HTA.out q x hx)
          rw [← HS.out] at hox5
          have hox := (HB6.out.cell (p := ⟨ob, oo + s, none⟩) hob).trans hox5
          have hob6 : ob < w6.heap.size := Nat.lt_of_lt_of_le hob HB6.out.size
          clear hox5
          have hsz : s < z := by have := HS.out; omega
          have n1 : decide ((s : Int) ≥ (z : Int)) = false := decide_eq_false (by omega)
          have n2 : decide ((z : Int) ≤ (s : Int)) = false := decide_eq_false (by omega)
          have n3 : ((x : Int) != (x : Int)) = false := by simp
          have hxl : x < l.length := (HL0.out.1.told.1 x (List.mem_of_getElem? (HTA.out q x hx))).1
          have HX := Lib.hid hx
          clear hx
          go_wp2_with (at_mapUpdate; refine wpList_put1 rfl _ _ _ rfl rfl HMN6.out (by omega) x p rfl rfl (by omega) (by omega) ?_; intro w7 hm7 hg7; have hsz7 : w6.heap.size ≤ w7.heap.size := hg7.size; have HM7 := Lib.hid hm7; have hb7 := HB6.out.grown hg7 HB6.out.size (fun j hj => by have := Option.some.inj hj; omega); have hox := (World.cell?_of_block (a := ⟨ob, oo + s, none⟩) (hg7.block ob hob6 (fun e => by have := Option.some.inj e; omega))).trans hox; have HB7 := Lib.hid hb7; clear hm7 hg7 hb7)
          go_roundw
          case rel => exact ⟨q + 1, s + 1, _, _, by omega, by go_num, by have := HS.out; omega, by go_num, HM7.out, HAI6.out.put HR0.out HX.out, HB7.out⟩
          case measure => simp [intOf]; omega
        · obtain rfl : q = r.length := by omega
          have hst : s = tot (L.take (p + 1)) := by rw [HTS.out, HS.out]
          have HST := Lib.hid hst
          clear hst
          go_wp2
          go_roundw
          case rel => exact ⟨p + 1, m', f', by omega, by go_num, by rw [HST.out], HST.out ▸ HMN6.out, HAI6.out.next HR0.out, HB6.out⟩
          case measure => simp [intOf]; omega
    · obtain rfl : p = L.length := by omega
      have htz : tot (L.take L.length) = z := by rw [List.take_length]; exact HTL.out
      rw [htz]
      rw [htz] at HMN
      clear htz
      go_wp2
      go_loopw [89] (fun i w6 => ∃ k : Nat, k ≤ l.length ∧ i = .int .i64 k ∧ Below wr.heap.size wr w6) (fun i _ => l.length - (intOf i).toNat)
      case atStart => exact ⟨0, Nat.zero_le _, rfl, Below.refl _ _⟩
      case round =>
        obtain ⟨k, hk, rfl, hbr⟩ := hrel
        rename World => w6
        have HB6 := Lib.hid hbr
        have HB06 := Lib.hid (fin (fin HB5.out HB.out) hbr)
        clear hbr
        by_cases hlk : k < l.length
        · go_wp2_with fail
          (with_reducible refine (oneeds_any ad a b c e l ch k _ (HR.out.below HB06.out) HL.out hlk (by omega) (HA.out.below HB06.out)).mono ?_)
          rintro e1 w7 ⟨na, nc, rfl, hiv, hb7⟩
          have hns : Sl RN 1 w7 na (O.needs l ch k) := by
            obtain ⟨a', c', e1, _, h2⟩ := hiv.read
            cases e1
            exact h2
          have hnl := O.needs_length l ch k
          have HNS := Lib.hid hns
          have HB7 := Lib.hid (fin HB6.out hb7)
          have HMN7 := Lib.hid (HMN.out.below (fin HB6.out hb7))
          clear hiv hb7 hns
          go_wp2
          go_loop [97] (fun i => ∃ b' : Nat, b' ≤ (O.needs l ch k).length ∧ i = .int .i64 b') (fun i => (O.needs l ch k).length - (intOf i).toNat)
          case atStart => exact ⟨0, Nat.zero_le _, rfl⟩
          case round =>
            obtain ⟨b', hb', rfl⟩ := hrel
            by_cases hlb : b' < (O.needs l ch k).length
            · obtain ⟨y, hy⟩ : ∃ y, (O.needs l ch k)[b']? = some y := ⟨(O.needs l ch k)[b'], by simp [hlb]⟩
              obtain ⟨ib, io, rfl, hib, hiy⟩ := Sl.cellN HNS.out hy
              have hky := O.mem_needs.1 (List.mem_of_getElem? hy)
              have hyl := (O.hnd l ch k y hky).2.1
              have hle := HAI.out.le HL0.out hky
              clear hy hky
              have HF := Lib.hid (rfl : f = f)
              obtain ⟨p1, hp1⟩ : ∃ v, (f y).getD 0 = v := ⟨_, rfl⟩
              obtain ⟨p2, hp2⟩ : ∃ v, (f k).getD 0 = v := ⟨_, rfl⟩
              rw [hp1, hp2] at hle
              have n1 : decide ((p1 : Int) > (p2 : Int)) = false := decide_eq_false (by omega)
              have n2 : decide ((p2 : Int) < (p1 : Int)) = false := decide_eq_false (by omega)
              go_wp2_with (first
                | (at_lookup; refine wpList_look1 rfl _ _ rfl rfl HMN7.out y rfl (by omega) ?_; rw [hp1])
                | (at_lookup; refine wpList_look1 rfl _ _ rfl rfl HMN7.out k rfl (by omega) ?_; rw [hp2]))
              go_round
              case rel => exact ⟨b' + 1, by omega, by go_num⟩
              case measure => simp [intOf]; omega
            · obtain rfl : b' = (O.needs l ch k).length := by omega
              go_wp2
              go_roundw
              case rel => exact ⟨k + 1, by omega, by go_num, HB7.out⟩
              case measure => simp [intOf]; omega
        · obtain rfl : k = l.length := by omega
          go_wp2
          go_ret
          exact ⟨ret_bool rfl, HB06.out⟩
end Go.Proofs.YthbchbpjfdpkjaaDoor

/- The law OrderFewer, walked. -/
import Derived.Test.YthbchbpjfdpkjaaDoorOC
import Derived.Test.YthbchbpjfdpkjaaDoorQBigAll
namespace Go.Proofs.YthbchbpjfdpkjaaDoor
open Go.RowKit
open Q (It Ver Tm Sp Rc Dm)

theorem Tryd.infoRec : (Tryd.prog.info? 32).map (fun i => (i.zero, i.size, i.bytes)) = some (some (.agg #[.string ⟨#[]⟩, .string ⟨#[]⟩, .string ⟨#[]⟩, .string ⟨#[]⟩, .int .i64 0, .slice none 0 0, .slice none 0 0, .string ⟨#[]⟩, .int .i64 0, .int .i64 0, .slice none 0 0, .slice none 0 0, .slice none 0 0]), 13, 224) := by kernel_rfl
theorem RRc.ones (w : World) : ∀ us x, RRc w us x → ∀ u ∈ us, u.oneCell' = true := fun us x h u hu => by
  obtain ⟨e, p, l, d, c, f, rfl, _, _, _, _, _, _, _, ⟨p', l', h8, _, ⟨a1, c1, h9, _⟩, ⟨a2, c2, h10, _⟩⟩, ⟨a3, c3, h11, _⟩, ⟨a4, c4, h12, _⟩, ⟨a5, c5, h13, _⟩⟩ := h
  simp at h8 h9 h10 h11 h12 h13
  obtain ⟨rfl, rfl, rfl⟩ := h8
  subst h9 h10 h11 h12 h13
  simp at hu
  rcases hu with rfl | rfl | rfl | rfl | rfl | rfl | rfl | rfl | rfl | rfl | rfl | rfl | rfl <;> rfl
/-- a cell of a row of the call's own may be written -/
theorem Own.frz {e k : Nat} {w : World} {base g c n : Nat} {cells : List Value} (h : Own e k w base (some ⟨g, 0, none⟩) c n cells) (i : Nat) : w.frozen? ⟨g, i, none⟩ = false := by
  rcases h.parts with ⟨e1, _⟩ | ⟨g', cur, e1, _, _, hg, _⟩
  · cases e1
  · cases e1; simp [World.frozen?, hg]
/-- a reader that reads in one world -/
def atW {α : Type} (R : Rd α) (w0 : World) : Rd α := fun _ us x => R w0 us x
theorem Sl.atW {α : Type} {R : Rd α} {k : Nat} {w0 W : World} {a : Option Addr} {xs : List α} (h : Sl R k w0 a xs) (hb : Below w0.heap.size w0 W) : Sl (atW R w0) k W a xs := by
  refine ⟨fun h0 => ?_, h.len⟩
  obtain ⟨b, off, e, hlt, hc⟩ := h.addr h0
  refine ⟨b, off, e, Nat.lt_of_lt_of_le hlt hb.size, fun i x hx => ?_⟩
  obtain ⟨us, u1, u2, u3⟩ := hc i x hx
  exact ⟨us, u1, fun j hj => (hb.cell (p := ⟨b, off + i * k + j, none⟩) hlt).trans (u2 j hj), u3⟩
/-- a record without needs -/
def bareR (r : Rc) : Rc := { r with deps := [] }
/-- the first k of them bare -/
def bareTo (l : List Rc) (k : Nat) : List Rc := (l.take k).map bareR ++ l.drop k
theorem bareTo_zero (l : List Rc) : bareTo l 0 = l := by simp [bareTo]
theorem bareTo_all (l : List Rc) : bareTo l l.length = l.map bareR := by simp [bareTo]
theorem bareTo_length (l : List Rc) (k : Nat) : (bareTo l k).length = l.length := by simp [bareTo]; omega
theorem bareTo_at {l : List Rc} {k : Nat} {r : Rc} (h : l[k]? = some r) : (bareTo l k)[k]? = some r := by
  have hk := (List.getElem?_eq_some_iff.1 h).1
  unfold bareTo
  have hl : ((l.take k).map bareR).length = k := by simp; omega
  rw [List.getElem?_append_right (by omega), hl, Nat.sub_self, List.getElem?_drop]
  simpa using h
theorem bareTo_set {l : List Rc} {k : Nat} {r : Rc} (h : l[k]? = some r) : (bareTo l k).set k (bareR r) = bareTo l (k + 1) := by
  have hk := (List.getElem?_eq_some_iff.1 h).1
  have hl : ((l.take k).map bareR).length = k := by simp; omega
  have hd : l.drop k = r :: l.drop (k + 1) := by
    rw [List.drop_eq_getElem_cons hk]
    congr 1
    exact (List.getElem?_eq_some_iff.1 h).2
  unfold bareTo
  rw [List.set_append_right _ _ (by omega), hl, Nat.sub_self, hd, List.set_cons_zero, List.take_add_one, h]
  simp
theorem Flat.turn {α : Type} {R : Rd α} {k i j : Nat} {w : World} {xs : List α} {cells : List Value} {y : α} {v : Value} (h : Flat R k w xs cells) (hi : i < xs.length) (hj : j < k) (hy : ∀ us x, xs[i]? = some x → R w us x → R w (us.set j v) y) : Flat R k w (xs.set i y) (cells.set (i * k + j) v) := by
  refine ⟨by simp [h.len], fun p x hx => ?_⟩
  rw [List.getElem?_set] at hx
  have hne : ∀ p q, p ≠ i → q < k → i * k + j ≠ p * k + q := by
    intro p q hp hq e
    rcases Nat.lt_or_gt_of_ne hp with h1 | h1
    · have := Nat.mul_le_mul_right k (show p + 1 ≤ i from h1)
      rw [Nat.add_mul] at this; omega
    · have := Nat.mul_le_mul_right k (show i + 1 ≤ p from h1)
      rw [Nat.add_mul] at this; omega
  by_cases e : i = p
  · subst e
    rw [if_pos rfl, if_pos hi] at hx
    cases hx
    obtain ⟨us, h1, h2, h3⟩ := h.at_ i xs[i] (by simp)
    refine ⟨us.set j v, by simpa using h1, fun q hq => ?_, hy us _ (by simp) h3⟩
    rw [List.getElem?_set, List.getElem?_set]
    have hlen : i * k + q < cells.length := by
      rw [h.len]
      have := Nat.mul_le_mul_right k (show i + 1 ≤ xs.length from hi)
      rw [Nat.add_mul] at this; omega
    by_cases e2 : j = q
    · subst e2; rw [if_pos rfl, if_pos rfl, if_pos hlen, if_pos (by omega)]
    · rw [if_neg (by omega), if_neg e2]; exact h2 q hq
  · rw [if_neg e] at hx
    obtain ⟨us, h1, h2, h3⟩ := h.at_ p x hx
    refine ⟨us, h1, fun q hq => ?_, h3⟩
    rw [List.getElem?_set, if_neg (hne p q (fun e1 => e e1.symm) hq)]; exact h2 q hq
theorem RRc.bare {w : World} {us : List Value} {r : Rc} (h : RRc w us r) : RRc w (us.set 10 (.slice none 0 0)) (bareR r) := by
  obtain ⟨e, p, l, d, c, f, h0, h1, h2, h3, h4, h5, h6, h7, h8, h9, h10, h11⟩ := h
  subst h0
  exact ⟨e, p, l, .slice none 0 0, c, f, rfl, h1, h2, h3, h4, h5, h6, h7, h8, nilS.1, h10, h11⟩
theorem bare_nd (l : List Rc) (ch : List Bool) (i j : Nat) : O.ndB (l.map bareR) ch i j = false := by
  have : O.asks (l.map bareR) i j = false := by
    unfold O.asks
    split
    · rename_i r q h1 h2
      rw [List.getElem?_map] at h1
      cases h : l[i]? with
      | none => rw [h] at h1; cases h1
      | some x => rw [h] at h1; cases h1; rfl
    · rfl
  unfold O.ndB; rw [this]; simp
theorem bare_nm (l : List Rc) (i : Nat) : O.nm (l.map bareR) i = O.nm l i := by
  unfold O.nm
  rw [List.getElem?_map]
  cases l[i]? <;> rfl
theorem bare_lt (l : List Rc) (i j : Nat) : O.lt (l.map bareR) i j = O.lt l i j := by
  rw [Bool.eq_iff_iff, O.lt_iff, O.lt_iff, bare_nm, bare_nm]
theorem few_next {l : List Rc} {ch : List Bool} {L : List (List Nat)} (h : Ordered (l.map bareR) ch L) {i x y : Nat} (hy : L.flatten[i]? = some y) (hx : L.flatten[i + 1]? = some x) : O.lt l y x = true := by
  have h1 := (O.bare_chain (O.ord _) (bare_nd l ch) h.1).2
  obtain ⟨a1, a2⟩ := List.getElem?_eq_some_iff.1 hy
  obtain ⟨b1, b2⟩ := List.getElem?_eq_some_iff.1 hx
  have := List.pairwise_iff_getElem.1 h1 i (i + 1) a1 b1 (by omega)
  rw [a2, b2, bare_lt] at this; exact this
set_option maxHeartbeats 8000000 in
set_option maxRecDepth 100000 in
theorem orderFewLaw (ad : Addr) (a b : Option Addr) (c e : Nat) (l : List Rc) (ch : List Bool) (w : World) (hR : RIn w a b l ch) (hA : ErrR w ad) (hcap : a = none → c = 0) :
    Calls Tryd.prog 3 #[.slice a l.length c, .slice b ch.length e] w fun e w' => e = .returned (.bool true) ∧ Below w.heap.size w w' := by
  have HR := Lib.hid hR
  have HA := Lib.hid hA
  have HCAP := Lib.hid hcap
  clear hR hA hcap
  go_enter Tryd.func3, Tryd.ntmps3
  go_wp2_with fail
  (with_reducible refine (alive23 ad _ HA.out).mono ?_)
  rintro e1 w1 ⟨rfl, hb⟩
  have HB1 := Lib.hid hb
  clear hb
  go_wp2_with fail
  (with_reducible refine (bigAll_any a c l 40 _ (HR.out.below HB1.out).recs (by omega)).mono ?_)
  rintro e1 w2 ⟨q, rfl, hq, hb⟩
  have HB2 := Lib.hid (fin HB1.out hb)
  clear hb
  cases q
  case true =>
    go_wp2
    go_ret
    exact ⟨rfl, HB2.out⟩
  have h40 := hq rfl
  clear hq
  by_cases h1 : ch.length = l.length
  case neg =>
    have n1 : ((ch.length : Int) != (l.length : Int)) = true := by rw [bne_iff_ne]; omega
    go_wp2
    go_ret
    exact ⟨rfl, HB2.out⟩
  have n1 : ((ch.length : Int) != (l.length : Int)) = false := by simp [h1]
  have HL := Lib.hid h1
  clear h1
  have h0 : Own 32 13 (w2.alloc (Obj.cells #[] 32)) w2.heap.size (some ⟨w2.heap.size, 0, none⟩) 0 0 [] :=
    ⟨by simp, .inr ⟨w2.heap.size, 0, #[], rfl, Nat.le_refl _, heap_new1 _ _, Nat.le_refl _, by unfold maxLen; omega, by simp, by simp⟩⟩
  have H0 := Lib.hid h0
  clear h0
  go_wp2_with (at_builtin; refine wpList_append_flat (R := atW RRc w2) Tryd.infoRec rfl (by decide) rfl (.tmp 25) (.tmp 26) 22 rfl Tryd.underlying22 w2.heap.size _ _ _ [] rfl H0.out _ _ _ l rfl rfl ((HR.out.recs.below stays_RRc HB2.out).atW (b1 _ _)) (fun us x h => RRc.ones w2 us x h) HCAP.out (by omega) (by omega) (by simp) ?_; intro a1 c1 w3 cells1 hown1 hF1 hg1 hB1; have HO1 := Lib.hid hown1; have HF1 := Lib.hid hF1; have HB3 := Lib.hid ((b1 w2 (Obj.cells #[] 32)).trans (hB1.mono (Nat.le_refl _))); clear hown1 hF1 hg1 hB1)
  have e0 : 0 + l.length = l.length := Nat.zero_add _
  have HO : Hid (Own 32 13 w3 w2.heap.size a1 c1 l.length cells1) := Lib.hid (by have := HO1.out; rw [e0] at this; simpa using this)
  clear HO1 e0 H0
  go_loopw [30] (fun i wr => ∃ (k : Nat) (cells : List Value), k ≤ l.length ∧ i = .int .i64 k ∧ Own 32 13 wr w2.heap.size a1 c1 l.length cells ∧ Flat (atW RRc w2) 13 w2 (bareTo l k) cells ∧ Below w2.heap.size w2 wr) (fun i _ => l.length - (intOf i).toNat)
  case atStart => exact ⟨0, cells1, Nat.zero_le _, rfl, HO.out, by rw [bareTo_zero]; exact HF1.out.mono fun _ _ _ h => h, HB3.out⟩
  case round =>
    obtain ⟨k, cells, hk, rfl, hown, hfl, hbr⟩ := hrel
    have HOW := Lib.hid hown
    have HFL := Lib.hid hfl
    have HB := Lib.hid hbr
    clear hown hfl hbr
    by_cases hlt : k < l.length
    · obtain ⟨r, hr⟩ : ∃ r, l[k]? = some r := ⟨l[k], by simp [hlt]⟩
      have hcl : k * 13 + 10 < cells.length := by rw [HFL.out.len, bareTo_length]; omega
      obtain ⟨v, hv⟩ : ∃ v, cells[k * 13 + 10]? = some v := ⟨cells[k * 13 + 10], by simp [hcl]⟩
      obtain ⟨g, rfl, hgl, hgb, hcell⟩ := Own.cell HOW.out hv
      have hfz := Own.frz HOW.out (k * 13 + 10)
      have HR1 := Lib.hid hr
      clear hr hv hcl
      go_wp2
      go_roundw
      case rel =>
        refine ⟨k + 1, cells.set (k * 13 + 10) (.slice none 0 0), by omega, by go_num, (World.ownsRow.stored HOW.out _ _).1, ?_, HB.out.setCell (p := ⟨g, k * 13 + 10, none⟩) hgb _⟩
        rw [← bareTo_set HR1.out]
        exact HFL.out.turn (by rw [bareTo_length]; exact hlt) (by omega) fun us x hx h => by
          rw [bareTo_at HR1.out] at hx
          cases hx
          exact RRc.bare (w := w2) h
      case measure => simp [intOf]; omega
    · obtain rfl : k = l.length := by omega
      have hml : (l.map bareR).length = l.length := by simp
      have hsl : Sl RRc 13 wr a1 (l.map bareR) := by
        have h1 := HFL.out
        rw [bareTo_all] at h1
        exact Own.sl (e := 32) (base := w2.heap.size) (c := c1) (cells := cells) (by rw [hml]; exact HOW.out) (h1.mono fun us x _ h => stays_RRc w2 _ _ _ HB.out h) (by rw [hml]; omega)
      have HC := Lib.hid (oOf_ok ad a1 b c1 e (l.map bareR) ch wr ⟨hsl, (HR.out.below (fin HB2.out HB.out)).bools⟩ (by rw [hml]; exact HL.out) (by rw [hml]; omega) (HA.out.below (fin HB2.out HB.out)))
      have HC2 : Hid (Calls Tryd.prog 7 #[.slice a1 l.length c1, .slice b ch.length e] wr (OfPost (l.map bareR) ch wr)) := Lib.hid (by have := HC.out; rw [hml] at this; exact this)
      clear hsl HC hml
      go_wp2_with fail
      (with_reducible refine HC2.out.mono ?_)
      rintro e1 w4 ⟨oa, oc, L, rfl, hL, hiv, hb⟩
      obtain ⟨z, hz⟩ : ∃ z, z = L.flatten.length := ⟨_, rfl⟩
      have hzl : z ≤ 40 := by have := hL.1.len; rw [List.length_map] at this; omega
      have hO : Sl RN 1 w4 oa L.flatten := by
        obtain ⟨a', c', e1, _, h2⟩ := hiv.read
        cases e1
        exact h2
      rw [← hz]
      have hlp := O.listed_perm (O.hnd (l.map bareR) ch) hL.1 hL.2
      have hzc : z = O.cntTo (O.chB ch) ch.length := by
        rw [hz, hlp.length_eq, List.length_map, HL.out]; rfl
      have HOK := Lib.hid (fun (i x : Nat) (h : L.flatten[i]? = some x) => hL.1.told.1 x (List.mem_of_getElem? h))
      have HNX := Lib.hid (fun (i x y : Nat) (hy : L.flatten[i]? = some y) (hx : L.flatten[i + 1]? = some x) => few_next hL hy hx)
      have HZ := Lib.hid hz
      have HZC := Lib.hid hzc
      have HO4 := Lib.hid hO
      have HB4 := Lib.hid (fin (fin HB2.out HB.out) hb)
      clear hL hz hzc hO hiv hb hlp HC2
      go_wp2
      go_loop [9, 48] (fun cn i => ∃ k : Nat, k ≤ ch.length ∧ i = .int .i64 k ∧ cn = .int .i64 (O.cntTo (O.chB ch) k)) (fun _ i => ch.length - (intOf i).toNat)
      case atStart => exact ⟨0, Nat.zero_le _, rfl, rfl⟩
      case round =>
        obtain ⟨k, hk2, rfl, rfl⟩ := hrel
        have hcn := O.cntTo_succ (ch := O.chB ch) k
        have hcl := O.cntTo_le (ch := O.chB ch) k
        by_cases hlt : k < ch.length
        · have hchl := HR.out.bools.len
          obtain ⟨y, hy⟩ : ∃ y, ch[k]? = some y := ⟨ch[k], by simp [hlt]⟩
          obtain ⟨b2, o2, rfl, hbl2, hcb⟩ := HR.out.bools.addr (by omega)
          have hcy := (HB4.out.cell (p := ⟨b2, o2 + k, none⟩) hbl2).trans (hcb k y hy)
          have hbl3 : b2 < w4.heap.size := Nat.lt_of_lt_of_le hbl2 HB4.out.size
          rw [O.chB_get hy] at hcn
          have HCN := Lib.hid hcn
          clear hy hcb hcn
          generalize O.cntTo (O.chB ch) k = zz at HCN hcl ⊢
          cases y
          · go_wp2
            go_round
            case rel => exact ⟨k + 1, by omega, by go_num, by rw [HCN.out]; rfl⟩
            case measure => simp [intOf]; omega
          · go_wp2
            go_round
            case rel => exact ⟨k + 1, by omega, by go_num, by rw [HCN.out]; go_num⟩
            case measure => simp [intOf]; omega
        · obtain rfl : k = ch.length := by omega
          have e1 : O.cntTo (O.chB ch) ch.length = z := HZC.out.symm
          rw [e1]
          clear e1 hcn hcl
          go_wp2
          go_loopw [58] (fun i wr => ∃ k : Nat, k ≤ z ∧ i = .int .i64 k ∧ Below w4.heap.size w4 wr) (fun i _ => z - (intOf i).toNat)
          case atStart => exact ⟨0, Nat.zero_le _, rfl, Below.refl _ _⟩
          case round =>
            obtain ⟨k, hk3, rfl, hbr⟩ := hrel
            rename World => w6
            have HB6 := Lib.hid hbr
            have HB46 := Lib.hid (fin HB4.out hbr)
            clear hbr
            by_cases hlz : k < z
            · obtain ⟨x, hx⟩ : ∃ x, L.flatten[k]? = some x := ⟨L.flatten[k]'(by rw [← HZ.out]; exact hlz), by simp⟩
              obtain ⟨ob, oo, rfl, hob, hox⟩ := Sl.cellN (HO4.out.below stays_RN HB6.out) hx
              obtain ⟨hxl, hxc⟩ := HOK.out k x hx
              rw [List.length_map] at hxl
              have n1 : decide ((x : Int) < 0) = false := decide_eq_false (by omega)
              have n2 : decide ((x : Int) ≥ (l.length : Int)) = false := decide_eq_false (by omega)
              have n3 : decide ((l.length : Int) ≤ (x : Int)) = false := decide_eq_false (by omega)
              have n4 : decide (l.length ≤ x) = false := decide_eq_false (by omega)
              have n5 : ¬ ((l.length : Int) ≤ (x : Int)) := by omega
              have n6 : ¬ (l.length ≤ x) := by omega
              have hxcl : x < ch.length := by have := HL.out; omega
              have hy : ch[x]? = some true := by
                obtain ⟨y, hy⟩ : ∃ y, ch[x]? = some y := ⟨ch[x], by simp [hxcl]⟩
                rw [O.chB_get hy] at hxc; rw [hy, hxc]
              obtain ⟨b2, o2, rfl, hbl2, hcb⟩ := HR.out.bools.addr (by omega)
              have hcy := (HB46.out.cell (p := ⟨b2, o2 + x, none⟩) hbl2).trans (hcb x true hy)
              have hbl3 : b2 < w6.heap.size := Nat.lt_of_lt_of_le hbl2 HB46.out.size
              obtain ⟨rx, hrx⟩ : ∃ r, l[x]? = some r := ⟨l[x], by simp [hxl]⟩
              obtain ⟨rb, ro, pa, la, pc, lc, da, dc, ca, cc, fa, fc, e1, hrb, ⟨t0, t1, t2, _⟩, _⟩ := (HR.out.recs.below stays_RRc HB46.out).cellsRc hrx
              subst e1
              have HX := Lib.hid hx
              have HRX := Lib.hid hrx
              clear hx hcb hy hrx hxc
              rcases Nat.eq_zero_or_pos k with rfl | hk0
              · rw [Nat.add_zero] at hox
                go_wp2
                go_quiet (fail)
                go_wp2
                go_roundw
                case rel => exact ⟨1, by omega, rfl, bDr HB6.out⟩
                case measure => simp [intOf]; omega
              · obtain ⟨j, rfl⟩ : ∃ j, k = j + 1 := ⟨k - 1, by omega⟩
                obtain ⟨y, hy⟩ : ∃ y, L.flatten[j]? = some y := ⟨L.flatten[j]'(by rw [← HZ.out]; omega), by simp⟩
                obtain ⟨ob9, oo9, e9, hob9, hoy⟩ := Sl.cellN (HO4.out.below stays_RN HB6.out) hy
                cases e9
                have hyl := (HOK.out j y hy).1
                rw [List.length_map] at hyl
                obtain ⟨ry, hry⟩ : ∃ r, l[y]? = some r := ⟨l[y], by simp [hyl]⟩
                obtain ⟨rb9, ro9, pa2, la2, pc2, lc2, da2, dc2, ca2, cc2, fa2, fc2, e9, hrb9, ⟨u0, u1, u2, _⟩, _⟩ := (HR.out.recs.below stays_RRc HB46.out).cellsRc hry
                cases e9
                have hlt := O.lt_iff.1 (HNX.out j x y hy HX.out)
                rw [O.nm_at hry, O.nm_at HRX.out] at hlt
                have e1 : ((j + 1 : Nat) : Int) - 1 = (j : Int) := by omega
                clear hy hry
                rcases hlt with hlt | ⟨hlt, hyx⟩
                · have f1 : Op.bytesLess ry.name.toList rx.name.toList = true := hlt
                  have f2 : (ry.name.toList == rx.name.toList) = false := by
                    rw [beq_eq_false_iff_ne]
                    intro e
                    rw [e, Q.less_irrefl'] at hlt; cases hlt
                  clear hlt
                  go_wp2
                  go_quiet (fail)
                  go_wp2
                  go_roundw
                  case rel => exact ⟨j + 2, by omega, by go_num, bDr HB6.out⟩
                  case measure => simp [intOf]; omega
                · have f1 : Op.bytesLess ry.name.toList rx.name.toList = false := by rw [hlt]; exact Q.less_irrefl' _
                  have f2 : (ry.name.toList == rx.name.toList) = true := by rw [hlt]; simp
                  have n7 : decide ((y : Int) ≥ (x : Int)) = false := decide_eq_false (by omega)
                  have n8 : decide ((x : Int) ≤ (y : Int)) = false := decide_eq_false (by omega)
                  clear hlt
                  go_wp2
                  go_quiet (fail)
                  go_wp2
                  go_roundw
                  case rel => exact ⟨j + 2, by omega, by go_num, bDr HB6.out⟩
                  case measure => simp [intOf]; omega
            · obtain rfl : k = z := by omega
              have n1 : ((k : Int) == (k : Int)) = true := by simp
              go_wp2
              go_ret
              exact ⟨ret_bool rfl, HB46.out⟩
end Go.Proofs.YthbchbpjfdpkjaaDoor

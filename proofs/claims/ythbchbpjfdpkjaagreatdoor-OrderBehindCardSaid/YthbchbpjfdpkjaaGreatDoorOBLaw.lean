/- The law OrderBehind, walked. -/
import Derived.Test.YthbchbpjfdpkjaaGreatDoorORef
import Derived.Test.YthbchbpjfdpkjaaGreatDoorOZs
import Derived.Test.YthbchbpjfdpkjaaGreatDoorQBigAll
namespace Go.Proofs.YthbchbpjfdpkjaaGreatDoor
open Go.RowKit
open Q (It Ver Tm Sp Rc Dm)

/-- each one's needs are told, or come back to it -/
def Turn (nd : Nat → Nat → Bool) (ps : List Nat) : Prop := ∀ (p i : Nat), ps[p]? = some i → ∀ k, nd i k = true → k ∈ ps.take p ∨ O.comes nd k i = true
theorem Turn.nil (nd : Nat → Nat → Bool) : Turn nd [] := fun p i h => by simp at h
theorem Turn.snoc {nd : Nat → Nat → Bool} {ps : List Nat} {x : Nat} : Turn nd (ps ++ [x]) ↔ Turn nd ps ∧ ∀ k, nd x k = true → k ∈ ps ∨ O.comes nd k x = true := by
  constructor
  · intro h
    refine ⟨fun p i hp k hk => ?_, fun k hk => ?_⟩
    · have hl := (List.getElem?_eq_some_iff.1 hp).1
      have := h p i (by rw [List.getElem?_append_left hl]; exact hp) k hk
      rwa [List.take_append_of_le_length (by omega)] at this
    · have := h ps.length x (by simp) k hk
      rwa [List.take_left' rfl] at this
  · rintro ⟨h1, h2⟩ p i hp k hk
    rcases Nat.lt_or_ge p ps.length with hl | hl
    · rw [List.getElem?_append_left hl] at hp
      rw [List.take_append_of_le_length (by omega)]
      exact h1 p i hp k hk
    · have hl2 := (List.getElem?_eq_some_iff.1 hp).1
      have : p = ps.length := by simp at hl2; omega
      subst this
      simp at hp; subst hp
      rw [List.take_left' rfl]
      exact h2 k hk
/-- who is told -/
def toldL (n : Nat) (ps : List Nat) : List Bool := (List.range n).map fun j => ps.contains j
theorem toldL_start (n : Nat) : List.replicate n false = toldL n [] := by
  apply List.ext_getElem?; intro j; by_cases h : j < n <;> simp [toldL, h]
theorem toldL_put (n : Nat) (ps : List Nat) (x : Nat) : (toldL n ps).set x true = toldL n (ps ++ [x]) := by
  unfold toldL
  rw [row_set]
  apply List.map_congr_left; intro j _
  by_cases h : j = x
  · simp [h]
  · rw [if_neg h]; simp [h]
theorem toldL_at {n x : Nat} (ps : List Nat) (h : x < n) : (toldL n ps)[x]? = some (ps.contains x) := by simp [toldL, h]
theorem beh_same {l : List Rc} {ch : List Bool} {zs : List Int} {ps : List Nat} (hz : zs = ps.map fun k : Nat => (k : Int)) (ok : ∀ x ∈ ps, x < l.length ∧ O.chB ch x = true) (hn : ps.Nodup) : BehI l ch zs ↔ ps.length = O.cntTo (O.chB ch) l.length ∧ Turn (O.ndB l ch) ps := by
  constructor
  · rintro ⟨ps2, h2, hb⟩
    obtain rfl := map_int_inj (hz.symm.trans h2)
    exact ⟨hb.len, (O.beh_turn (O.hnd l ch) ok hn hb.len).1 hb⟩
  · rintro ⟨hl, ht⟩
    exact ⟨ps, hz, (O.beh_turn (O.hnd l ch) ok hn hl).2 ht⟩
theorem beh_nodup {l : List Rc} {ch : List Bool} {zs : List Int} {ps : List Nat} {p x : Nat} (h : BehI l ch zs) (hz : zs.take p = ps.map fun k : Nat => (k : Int)) (hx : zs[p]? = some (x : Int)) (hp : x ∈ ps) : False := by
  obtain ⟨qs, rfl, hb⟩ := h
  have h1 : (qs.take p) = ps := map_int_inj (by rw [← hz, List.map_take])
  rw [List.getElem?_map] at hx
  cases hq : qs[p]? with
  | none => rw [hq] at hx; cases hx
  | some y =>
    rw [hq] at hx
    have e : y = x := by have h9 : (y : Int) = (x : Int) := (by simpa using hx); omega
    subst e
    rw [← h1] at hp
    obtain ⟨i, hi⟩ := List.getElem?_of_mem hp
    rw [List.getElem?_take] at hi
    split at hi
    · rename_i hlt
      obtain ⟨a1, a2⟩ := List.getElem?_eq_some_iff.1 hi
      obtain ⟨b1, b2⟩ := List.getElem?_eq_some_iff.1 hq
      have := (List.getElem_inj hb.nodup).1 (a2.trans b2.symm)
      omega
    · cases hi
set_option maxHeartbeats 8000000 in
set_option maxRecDepth 100000 in
theorem behindLaw (ad : Addr) (a b q : Option Addr) (c e qc : Nat) (l : List Rc) (ch : List Bool) (zs : List Int) (w : World) (hR : RIn w a b l ch) (hq : InZ w q zs) (hA : ErrR w ad) :
    Calls Tryz.prog 3 #[.slice a l.length c, .slice b ch.length e, .slice q zs.length qc] w fun e w' => e = .returned (.bool true) ∧ Below w.heap.size w w' := by
  have HR := Lib.hid hR
  have HQ0 := Lib.hid hq
  have HA := Lib.hid hA
  clear hR hq hA
  go_enter Tryz.func3, Tryz.ntmps3
  go_wp2_with fail
  (with_reducible refine (alive23 ad _ HA.out).mono ?_)
  rintro e1 w1 ⟨rfl, hb⟩
  have HB1 := Lib.hid hb
  clear hb
  go_wp2_with fail
  (with_reducible refine (bigAll_any a c l 40 _ (HR.out.below HB1.out).recs (by omega)).mono ?_)
  rintro e1 w2 ⟨b0, rfl, hq, hb⟩
  have HB2 := Lib.hid (fin HB1.out hb)
  clear hb
  cases b0
  case true =>
    go_wp2
    go_ret
    exact ⟨rfl, HB2.out⟩
  have h40 := hq rfl
  clear hq
  by_cases h1 : ch.length = l.length
  case neg =>
    have n1 : ((ch.length : Int) != (l.length : Int)) = true := by rw [bne_iff_ne]; omega
    go_wp2
    go_ret
    exact ⟨rfl, HB2.out⟩
  have n1 : ((ch.length : Int) != (l.length : Int)) = false := by simp [h1]
  have HL := Lib.hid h1
  clear h1
  by_cases h1 : 60 < zs.length
  · have n2 : decide ((zs.length : Int) > 60) = true := decide_eq_true (by omega)
    have n3 : decide ((60 : Int) < (zs.length : Int)) = true := decide_eq_true (by omega)
    go_wp2
    go_ret
    exact ⟨rfl, HB2.out⟩
  have HQ := Lib.hid (HQ0.out.sl (by omega))
  have n2 : decide ((zs.length : Int) > 60) = false := decide_eq_false (by omega)
  have n3 : decide ((60 : Int) < (zs.length : Int)) = false := decide_eq_false (by omega)
  go_wp2_with fail
  (with_reducible refine (rcomes_any a b c e l ch _ (HR.out.below HB2.out) HL.out (by omega)).mono ?_)
  rintro e1 w3 ⟨xa, xc, gs, rfl, hgl, htb, hb⟩
  have HGL := Lib.hid hgl
  have HTB := Lib.hid htb
  have HB3 := Lib.hid (fin HB2.out hb)
  clear hgl htb hb n1 n2 n3
  go_wp2_with (at_make; refine wpList_make_Bools rfl (.tmp 37) (.tmp 37) rfl w3.heap.size l.length rfl rfl (by omega) (Nat.le_refl _) ?_; intro w4 hown hb4 hlt4; have HO4 := Lib.hid hown; have HB4 := Lib.hid hb4; clear hown hb4)
  go_loopw [8, 10, 41] (fun wt mn i wr => ∃ (p : Nat) (ps : List Nat) (wv : Bool), p ≤ zs.length ∧ i = .int .i64 p ∧ ps.length = p ∧ mn = .int .i64 (ps.length : Nat) ∧ wt = .bool wv ∧ zs.take p = ps.map (fun k : Nat => (k : Int)) ∧ (∀ x ∈ ps, x < l.length ∧ O.chB ch x = true) ∧ ps.Nodup ∧ (wv = true ↔ Turn (O.ndB l ch) ps) ∧ OwnB wr w3.heap.size (some ⟨w3.heap.size, 0, none⟩) l.length (toldL l.length ps) ∧ Below w3.heap.size w3 wr) (fun _ _ i _ => zs.length - (intOf i).toNat)
  case atStart => exact ⟨0, [], true, Nat.zero_le _, rfl, rfl, rfl, rfl, rfl, by simp, List.Pairwise.nil, ⟨fun _ => Turn.nil _, fun _ => rfl⟩, by rw [← toldL_start]; exact HO4.out, HB4.out⟩
  case round =>
    obtain ⟨p, ps, wv, hk, rfl, hpl, rfl, rfl, htk, hps, hnd, hwv, hown, hbr⟩ := hrel
    have HPL := Lib.hid hpl
    have HTK := Lib.hid htk
    have HPS := Lib.hid hps
    have HND := Lib.hid hnd
    have HWV := Lib.hid hwv
    have HO := Lib.hid hown
    have HB := Lib.hid hbr
    have HB0 := Lib.hid (fin HB3.out hbr)
    have hzr := hbr.size
    have hpz : ps.length ≤ 60 := by omega
    clear hpl htk hps hnd hwv hown hbr
    by_cases hlt : p < zs.length
    · obtain ⟨z, hz⟩ : ∃ z, zs[p]? = some z := ⟨zs[p], by simp [hlt]⟩
      obtain ⟨qb, qo, rfl, hql, hqc⟩ := (HQ.out.below stays_RJ HB0.out).cellZ hz
      have HZ := Lib.hid hz
      clear hz
      rcases Int.lt_or_le z 0 with h0 | h0
      · have n1 : decide (z < 0) = true := decide_eq_true h0
        go_wp2
        go_loop [10, 100] (fun cn i => ∃ k : Nat, k ≤ ch.length ∧ i = .int .i64 k ∧ cn = .int .i64 ((ps.length : Int) - (O.cntTo (O.chB ch) k : Nat))) (fun _ i => ch.length - (intOf i).toNat)
        case atStart => exact ⟨0, Nat.zero_le _, rfl, by simp [O.cntTo_zero]⟩
        case round =>
          obtain ⟨k, hk2, rfl, rfl⟩ := hrel
          have hcn := O.cntTo_succ (ch := O.chB ch) k
          have hcl := O.cntTo_le (ch := O.chB ch) k
          by_cases hlt2 : k < ch.length
          · have hchl := HR.out.bools.len
            obtain ⟨y, hy⟩ : ∃ y, ch[k]? = some y := ⟨ch[k], by simp [hlt2]⟩
            obtain ⟨b2, o2, e9, hbl2, hcb⟩ := HR.out.bools.addr (by omega)
            first | cases e9 | subst e9
            have hcy := (HB0.out.cell (p := ⟨b2, o2 + k, none⟩) hbl2).trans (hcb k y hy)
            have hbl3 : b2 < wr.heap.size := Nat.lt_of_lt_of_le hbl2 HB0.out.size
            rw [O.chB_get hy] at hcn
            have HCN := Lib.hid hcn
            clear hy hcb hcn
            generalize O.cntTo (O.chB ch) k = zz at HCN hcl ⊢
            cases y
            · go_wp2
              go_round
              case rel => exact ⟨k + 1, by omega, by go_num, by rw [HCN.out]; rfl⟩
              case measure => simp [intOf]; omega
            · go_wp2
              go_round
              case rel => exact ⟨k + 1, by omega, by go_num, by rw [HCN.out]; go_num⟩
              case measure => simp [intOf]; omega
          · obtain rfl : k = ch.length := by omega
            have hct : O.cntTo (O.chB ch) ch.length = O.cntTo (O.chB ch) l.length := by rw [HL.out]
            have HCT := Lib.hid hct
            clear hct hcn
            generalize O.cntTo (O.chB ch) ch.length = z9 at HCT hcl ⊢
            go_wp2_with fail
            (with_reducible refine (oBehind_any ad a _ _ c e qc l ch zs _ (HR.out.below HB0.out) HL.out (by omega) (HA.out.below HB0.out) (HQ.out.below stays_RJ HB0.out) (by omega)).mono ?_)
            rintro e1 w9 ⟨v, rfl, hv, hb9⟩
            have HB9 := Lib.hid (fin HB0.out hb9)
            have HV := Lib.hid hv
            clear hb9 hv
            have hvf : v = false := by
              cases v
              · rfl
              · exact ((fun h => by obtain ⟨x, e9, _⟩ := BehI.ok h HZ.out; omega : BehI l ch zs → False) (HV.out.1 rfl)).elim
            subst hvf
            go_wp2
            go_ret
            exact ⟨ret_bool rfl, HB9.out⟩
      · obtain ⟨x, rfl⟩ : ∃ x : Nat, z = x := ⟨z.toNat, by omega⟩
        have n1 : decide ((x : Int) < 0) = false := decide_eq_false (by omega)
        by_cases hx : x < l.length
        · have n2 : decide ((x : Int) ≥ (l.length : Int)) = false := decide_eq_false (by omega)
          have n3 : decide ((l.length : Int) ≤ (x : Int)) = false := decide_eq_false (by omega)
          have n4 : decide (l.length ≤ x) = false := decide_eq_false (by omega)
          have n5 : ¬ ((l.length : Int) ≤ (x : Int)) := by omega
          have n6 : ¬ (l.length ≤ x) := by omega
          have hxc : x < ch.length := by have := HL.out; omega
          obtain ⟨y, hy⟩ : ∃ y, ch[x]? = some y := ⟨ch[x], by simp [hxc]⟩
          obtain ⟨b2, o2, rfl, hbl2, hcb⟩ := HR.out.bools.addr (by omega)
          have hcy := (HB0.out.cell (p := ⟨b2, o2 + x, none⟩) hbl2).trans (hcb x y hy)
          have hbl3 : b2 < wr.heap.size := Nat.lt_of_lt_of_le hbl2 HB0.out.size
          have HY := Lib.hid hy
          clear hy hcb
          cases y
          · clear n2 n3 n4 n5 n6
            have n2 : decide ((x : Int) ≥ (l.length : Int)) = false := decide_eq_false (by omega)
            have n3 : decide ((l.length : Int) ≤ (x : Int)) = false := decide_eq_false (by omega)
            have n5 : ¬ ((l.length : Int) ≤ (x : Int)) := by omega
            go_wp2
            go_loop [10, 100] (fun cn i => ∃ k : Nat, k ≤ ch.length ∧ i = .int .i64 k ∧ cn = .int .i64 ((ps.length : Int) - (O.cntTo (O.chB ch) k : Nat))) (fun _ i => ch.length - (intOf i).toNat)
            case atStart => exact ⟨0, Nat.zero_le _, rfl, by simp [O.cntTo_zero]⟩
            case round =>
              obtain ⟨k, hk2, rfl, rfl⟩ := hrel
              have hcn := O.cntTo_succ (ch := O.chB ch) k
              have hcl := O.cntTo_le (ch := O.chB ch) k
              by_cases hlt2 : k < ch.length
              · have hchl := HR.out.bools.len
                obtain ⟨y, hy⟩ : ∃ y, ch[k]? = some y := ⟨ch[k], by simp [hlt2]⟩
                obtain ⟨b2, o2, e9, hbl2, hcb⟩ := HR.out.bools.addr (by omega)
                first | cases e9 | subst e9
                have hcy := (HB0.out.cell (p := ⟨b2, o2 + k, none⟩) hbl2).trans (hcb k y hy)
                have hbl3 : b2 < wr.heap.size := Nat.lt_of_lt_of_le hbl2 HB0.out.size
                rw [O.chB_get hy] at hcn
                have HCN := Lib.hid hcn
                clear hy hcb hcn
                generalize O.cntTo (O.chB ch) k = zz at HCN hcl ⊢
                cases y
                · go_wp2
                  go_round
                  case rel => exact ⟨k + 1, by omega, by go_num, by rw [HCN.out]; rfl⟩
                  case measure => simp [intOf]; omega
                · go_wp2
                  go_round
                  case rel => exact ⟨k + 1, by omega, by go_num, by rw [HCN.out]; go_num⟩
                  case measure => simp [intOf]; omega
              · obtain rfl : k = ch.length := by omega
                have hct : O.cntTo (O.chB ch) ch.length = O.cntTo (O.chB ch) l.length := by rw [HL.out]
                have HCT := Lib.hid hct
                clear hct hcn
                generalize O.cntTo (O.chB ch) ch.length = z9 at HCT hcl ⊢
                go_wp2_with fail
                (with_reducible refine (oBehind_any ad a _ _ c e qc l ch zs _ (HR.out.below HB0.out) HL.out (by omega) (HA.out.below HB0.out) (HQ.out.below stays_RJ HB0.out) (by omega)).mono ?_)
                rintro e1 w9 ⟨v, rfl, hv, hb9⟩
                have HB9 := Lib.hid (fin HB0.out hb9)
                have HV := Lib.hid hv
                clear hb9 hv
                have hvf : v = false := by
                  cases v
                  · rfl
                  · exact (((fun h => (by obtain ⟨x2, e9, _, h9⟩ := BehI.ok h HZ.out; obtain rfl : x = x2 := (by omega); rw [O.chB_get HY.out] at h9; cases h9)) : BehI l ch zs → False) (HV.out.1 rfl)).elim
                subst hvf
                go_wp2
                go_ret
                exact ⟨ret_bool rfl, HB9.out⟩
          · have htc := HO.out.cell (toldL_at ps hx)
            by_cases htx : x ∈ ps
            · have hct : ps.contains x = true := by simpa using htx
              rw [hct] at htc
              clear hct
              go_wp2
              go_loop [10, 100] (fun cn i => ∃ k : Nat, k ≤ ch.length ∧ i = .int .i64 k ∧ cn = .int .i64 ((ps.length : Int) - (O.cntTo (O.chB ch) k : Nat))) (fun _ i => ch.length - (intOf i).toNat)
              case atStart => exact ⟨0, Nat.zero_le _, rfl, by simp [O.cntTo_zero]⟩
              case round =>
                obtain ⟨k, hk2, rfl, rfl⟩ := hrel
                have hcn := O.cntTo_succ (ch := O.chB ch) k
                have hcl := O.cntTo_le (ch := O.chB ch) k
                by_cases hlt2 : k < ch.length
                · have hchl := HR.out.bools.len
                  obtain ⟨y, hy⟩ : ∃ y, ch[k]? = some y := ⟨ch[k], by simp [hlt2]⟩
                  obtain ⟨b2, o2, e9, hbl2, hcb⟩ := HR.out.bools.addr (by omega)
                  first | cases e9 | subst e9
                  have hcy := (HB0.out.cell (p := ⟨b2, o2 + k, none⟩) hbl2).trans (hcb k y hy)
                  have hbl3 : b2 < wr.heap.size := Nat.lt_of_lt_of_le hbl2 HB0.out.size
                  rw [O.chB_get hy] at hcn
                  have HCN := Lib.hid hcn
                  clear hy hcb hcn
                  generalize O.cntTo (O.chB ch) k = zz at HCN hcl ⊢
                  cases y
                  · go_wp2
                    go_round
                    case rel => exact ⟨k + 1, by omega, by go_num, by rw [HCN.out]; rfl⟩
                    case measure => simp [intOf]; omega
                  · go_wp2
                    go_round
                    case rel => exact ⟨k + 1, by omega, by go_num, by rw [HCN.out]; go_num⟩
                    case measure => simp [intOf]; omega
                · obtain rfl : k = ch.length := by omega
                  have hct : O.cntTo (O.chB ch) ch.length = O.cntTo (O.chB ch) l.length := by rw [HL.out]
                  have HCT := Lib.hid hct
                  clear hct hcn
                  generalize O.cntTo (O.chB ch) ch.length = z9 at HCT hcl ⊢
                  go_wp2_with fail
                  (with_reducible refine (oBehind_any ad a _ _ c e qc l ch zs _ (HR.out.below HB0.out) HL.out (by omega) (HA.out.below HB0.out) (HQ.out.below stays_RJ HB0.out) (by omega)).mono ?_)
                  rintro e1 w9 ⟨v, rfl, hv, hb9⟩
                  have HB9 := Lib.hid (fin HB0.out hb9)
                  have HV := Lib.hid hv
                  clear hb9 hv
                  have hvf : v = false := by
                    cases v
                    · rfl
                    · exact ((fun h => beh_nodup h HTK.out HZ.out htx : BehI l ch zs → False) (HV.out.1 rfl)).elim
                  subst hvf
                  go_wp2
                  go_ret
                  exact ⟨ret_bool rfl, HB9.out⟩
            · have hct : ps.contains x = false := by simpa using htx
              rw [hct] at htc
              clear hct
              go_wp2_with fail
              (with_reducible refine (rneeds_any a _ c e l ch x _ (HR.out.below HB0.out) HL.out hx (by omega)).mono ?_)
              rintro e1 w5 ⟨na, nc, rfl, hiv, hb5⟩
              have hns := hiv.row.2.2
              have hnl := O.needs_length l ch x
              have HNS := Lib.hid hns
              have HO5 := Lib.hid (HO.out.below hb5)
              have HB5 := Lib.hid (fin HB.out hb5)
              have HTB5 := Lib.hid (HTB.out.below (fin HB.out hb5))
              have hz5 : w3.heap.size < w5.heap.size := (HO.out.below hb5).blk.2
              clear hiv hb5 hns htc hcy
              go_wp2
              go_loop [8, 71] (fun wt i => ∃ (m : Nat) (wv2 : Bool), m ≤ (O.needs l ch x).length ∧ i = .int .i64 m ∧ wt = .bool wv2 ∧ (wv2 = true ↔ wv = true ∧ ∀ k ∈ (O.needs l ch x).take m, k ∈ ps ∨ O.comes (O.ndB l ch) k x = true)) (fun _ i => (O.needs l ch x).length - (intOf i).toNat)
              case atStart => exact ⟨0, wv, Nat.zero_le _, rfl, rfl, by simp⟩
              case round =>
                obtain ⟨m, wv2, hm2, rfl, rfl, hwv2⟩ := hrel
                have HW2 := Lib.hid hwv2
                clear hwv2
                by_cases hlm : m < (O.needs l ch x).length
                · obtain ⟨y, hy⟩ : ∃ y, (O.needs l ch x)[m]? = some y := ⟨(O.needs l ch x)[m], by simp [hlm]⟩
                  obtain ⟨ib, io, rfl, hib, hiy⟩ := Sl.cellN HNS.out hy
                  have hyl : y < l.length := (O.hnd l ch x y (O.mem_needs.1 (List.mem_of_getElem? hy))).2.1
                  have htc := HO5.out.cell (toldL_at ps hyl)
                  obtain ⟨gy, hgy⟩ : ∃ g, gs[y]? = some g := ⟨gs[y]'(by rw [HGL.out]; exact hyl), by simp⟩
                  obtain ⟨xb, rfl, hxb, _, _, hcg⟩ := HTB5.out.cell hgy
                  obtain ⟨hbt, _, hgl5, _⟩ := HTB5.out.bit hgy hx
                  obtain ⟨t1, ht1⟩ : ∃ t, ps.contains y = t := ⟨_, rfl⟩
                  obtain ⟨t2, ht2⟩ : ∃ t, O.comes (O.ndB l ch) y x = t := ⟨_, rfl⟩
                  rw [ht1] at htc
                  rw [ht2] at hbt
                  have hst : (wv2 && (t1 || t2)) = true ↔ wv = true ∧ ∀ k ∈ (O.needs l ch x).take (m + 1), k ∈ ps ∨ O.comes (O.ndB l ch) k x = true := by
                    have h1 := HW2.out
                    have h2 : t1 = true ↔ y ∈ ps := by rw [← ht1]; simp
                    have h3 : t2 = true ↔ O.comes (O.ndB l ch) y x = true := by rw [← ht2]
                    rw [List.take_add_one, hy]
                    simp only [Bool.and_eq_true, Bool.or_eq_true, h1, h2, h3, List.mem_append, Option.toList_some, List.mem_singleton]
                    constructor
                    · rintro ⟨⟨a1, a2⟩, a3⟩
                      exact ⟨a1, fun k hk => by
                        rcases hk with hk | rfl
                        · exact a2 k hk
                        · exact a3⟩
                    · rintro ⟨a1, a2⟩
                      exact ⟨⟨a1, fun k hk => a2 k (.inl hk)⟩, a2 y (.inr rfl)⟩
                  have HST := Lib.hid hst
                  clear hst ht1 ht2 hy hgy
                  cases wv2
                  · go_wp2
                    go_round
                    case rel => exact ⟨m + 1, false, by omega, by go_num, rfl, HST.out⟩
                    case measure => simp [intOf]; omega
                  · cases t1
                    · cases t2
                      · go_wp2
                        go_round
                        case rel => exact ⟨m + 1, false, by omega, by go_num, rfl, HST.out⟩
                        case measure => simp [intOf]; omega
                      · go_wp2
                        go_round
                        case rel => exact ⟨m + 1, true, by omega, by go_num, rfl, HST.out⟩
                        case measure => simp [intOf]; omega
                    · go_wp2
                      go_round
                      case rel => exact ⟨m + 1, true, by omega, by go_num, rfl, HST.out⟩
                      case measure => simp [intOf]; omega
                · obtain rfl : m = (O.needs l ch x).length := by omega
                  have htc := HO5.out.cell (toldL_at ps hx)
                  have htf := HO5.out.frozen x
                  have hw3 : wv2 = true ↔ Turn (O.ndB l ch) (ps ++ [x]) := by
                    rw [HW2.out, HWV.out, Turn.snoc, List.take_length]
                    exact and_congr_right fun _ => ⟨fun h k hk => h k (O.mem_needs.2 hk), fun h k hk => h k (O.mem_needs.1 hk)⟩
                  have HW3 := Lib.hid hw3
                  have hpl9 : (ps ++ [x]).length = ps.length + 1 := by simp
                  have HP9 := Lib.hid hpl9
                  clear hw3 hpl9
                  go_wp2
                  go_roundw
                  case rel =>
                    refine ⟨p + 1, ps ++ [x], wv2, by omega, by go_num, by rw [HP9.out, HPL.out], by rw [HP9.out]; go_num, rfl, ?_, fun y hy => ?_, ?_, HW3.out, by rw [← toldL_put]; exact HO5.out.stored x true, HB5.out.setCell (p := ⟨w3.heap.size, x, none⟩) (Nat.le_refl _) _⟩
                    · rw [List.take_add_one, HZ.out, HTK.out]; simp
                    · rcases List.mem_append.1 hy with h1 | h1
                      · exact HPS.out y h1
                      · simp at h1; subst h1; exact ⟨hx, O.chB_get HY.out⟩
                    · rw [List.nodup_append]
                      refine ⟨HND.out, by simp, fun y hy y2 hy2 e => ?_⟩
                      simp at hy2; subst hy2; subst e; exact htx hy
                  case measure => simp [intOf]; omega
        · have n2 : decide ((x : Int) ≥ (l.length : Int)) = true := decide_eq_true (by omega)
          have n3 : decide ((l.length : Int) ≤ (x : Int)) = true := decide_eq_true (by omega)
          go_wp2
          go_loop [10, 100] (fun cn i => ∃ k : Nat, k ≤ ch.length ∧ i = .int .i64 k ∧ cn = .int .i64 ((ps.length : Int) - (O.cntTo (O.chB ch) k : Nat))) (fun _ i => ch.length - (intOf i).toNat)
          case atStart => exact ⟨0, Nat.zero_le _, rfl, by simp [O.cntTo_zero]⟩
          case round =>
            obtain ⟨k, hk2, rfl, rfl⟩ := hrel
            have hcn := O.cntTo_succ (ch := O.chB ch) k
            have hcl := O.cntTo_le (ch := O.chB ch) k
            by_cases hlt2 : k < ch.length
            · have hchl := HR.out.bools.len
              obtain ⟨y, hy⟩ : ∃ y, ch[k]? = some y := ⟨ch[k], by simp [hlt2]⟩
              obtain ⟨b2, o2, e9, hbl2, hcb⟩ := HR.out.bools.addr (by omega)
              first | cases e9 | subst e9
              have hcy := (HB0.out.cell (p := ⟨b2, o2 + k, none⟩) hbl2).trans (hcb k y hy)
              have hbl3 : b2 < wr.heap.size := Nat.lt_of_lt_of_le hbl2 HB0.out.size
              rw [O.chB_get hy] at hcn
              have HCN := Lib.hid hcn
              clear hy hcb hcn
              generalize O.cntTo (O.chB ch) k = zz at HCN hcl ⊢
              cases y
              · go_wp2
                go_round
                case rel => exact ⟨k + 1, by omega, by go_num, by rw [HCN.out]; rfl⟩
                case measure => simp [intOf]; omega
              · go_wp2
                go_round
                case rel => exact ⟨k + 1, by omega, by go_num, by rw [HCN.out]; go_num⟩
                case measure => simp [intOf]; omega
            · obtain rfl : k = ch.length := by omega
              have hct : O.cntTo (O.chB ch) ch.length = O.cntTo (O.chB ch) l.length := by rw [HL.out]
              have HCT := Lib.hid hct
              clear hct hcn
              generalize O.cntTo (O.chB ch) ch.length = z9 at HCT hcl ⊢
              go_wp2_with fail
              (with_reducible refine (oBehind_any ad a _ _ c e qc l ch zs _ (HR.out.below HB0.out) HL.out (by omega) (HA.out.below HB0.out) (HQ.out.below stays_RJ HB0.out) (by omega)).mono ?_)
              rintro e1 w9 ⟨v, rfl, hv, hb9⟩
              have HB9 := Lib.hid (fin HB0.out hb9)
              have HV := Lib.hid hv
              clear hb9 hv
              have hvf : v = false := by
                cases v
                · rfl
                · exact ((fun h => by obtain ⟨x2, e9, h9, _⟩ := BehI.ok h HZ.out; omega : BehI l ch zs → False) (HV.out.1 rfl)).elim
              subst hvf
              go_wp2
              go_ret
              exact ⟨ret_bool rfl, HB9.out⟩
    · obtain rfl : p = zs.length := by omega
      have hzp : zs = ps.map fun k : Nat => (k : Int) := by rw [← HTK.out, List.take_length]
      have HZP := Lib.hid hzp
      clear hzp
      go_wp2
      go_loop [10, 100] (fun cn i => ∃ k : Nat, k ≤ ch.length ∧ i = .int .i64 k ∧ cn = .int .i64 ((ps.length : Int) - (O.cntTo (O.chB ch) k : Nat))) (fun _ i => ch.length - (intOf i).toNat)
      case atStart => exact ⟨0, Nat.zero_le _, rfl, by simp [O.cntTo_zero]⟩
      case round =>
        obtain ⟨k, hk2, rfl, rfl⟩ := hrel
        have hcn := O.cntTo_succ (ch := O.chB ch) k
        have hcl := O.cntTo_le (ch := O.chB ch) k
        by_cases hlt2 : k < ch.length
        · have hchl := HR.out.bools.len
          obtain ⟨y, hy⟩ : ∃ y, ch[k]? = some y := ⟨ch[k], by simp [hlt2]⟩
          obtain ⟨b2, o2, e9, hbl2, hcb⟩ := HR.out.bools.addr (by omega)
          first | cases e9 | subst e9
          have hcy := (HB0.out.cell (p := ⟨b2, o2 + k, none⟩) hbl2).trans (hcb k y hy)
          have hbl3 : b2 < wr.heap.size := Nat.lt_of_lt_of_le hbl2 HB0.out.size
          rw [O.chB_get hy] at hcn
          have HCN := Lib.hid hcn
          clear hy hcb hcn
          generalize O.cntTo (O.chB ch) k = zz at HCN hcl ⊢
          cases y
          · go_wp2
            go_round
            case rel => exact ⟨k + 1, by omega, by go_num, by rw [HCN.out]; rfl⟩
            case measure => simp [intOf]; omega
          · go_wp2
            go_round
            case rel => exact ⟨k + 1, by omega, by go_num, by rw [HCN.out]; go_num⟩
            case measure => simp [intOf]; omega
        · obtain rfl : k = ch.length := by omega
          have hct : O.cntTo (O.chB ch) ch.length = O.cntTo (O.chB ch) l.length := by rw [HL.out]
          have HCT := Lib.hid hct
          clear hct hcn
          generalize O.cntTo (O.chB ch) ch.length = z9 at HCT hcl ⊢
          go_wp2_with fail
          (with_reducible refine (oBehind_any ad a _ _ c e qc l ch zs _ (HR.out.below HB0.out) HL.out (by omega) (HA.out.below HB0.out) (HQ.out.below stays_RJ HB0.out) (by omega)).mono ?_)
          rintro e1 w9 ⟨v, rfl, hv, hb9⟩
          have HB9 := Lib.hid (fin HB0.out hb9)
          have HV := Lib.hid hv
          clear hb9 hv
          have HBS := Lib.hid (beh_same HZP.out HPS.out HND.out)
          cases wv
          · have hvf : v = false := by
              cases v
              · rfl
              · have := HWV.out.2 ((HBS.out.1 (HV.out.1 rfl)).2); cases this
            subst hvf
            go_wp2
            go_ret
            exact ⟨ret_bool rfl, HB9.out⟩
          · by_cases hpc : ps.length = z9
            · have hvt : v = true := HV.out.2 (HBS.out.2 ⟨by rw [hpc, HCT.out], HWV.out.1 rfl⟩)
              subst hvt
              have n9 : ((ps.length : Int) - (z9 : Int) == 0) = true := by rw [beq_iff_eq]; omega
              go_wp2
              go_ret
              exact ⟨ret_bool rfl, HB9.out⟩
            · have hvf : v = false := by
                cases v
                · rfl
                · have := (HBS.out.1 (HV.out.1 rfl)).1; rw [← HCT.out] at this; exact absurd this hpc
              subst hvf
              have n9 : ((ps.length : Int) - (z9 : Int) == 0) = false := by rw [beq_eq_false_iff_ne]; omega
              go_wp2
              go_ret
              exact ⟨ret_bool rfl, HB9.out⟩
end Go.Proofs.YthbchbpjfdpkjaaGreatDoor

/- Contracts of reduce.Reduce, Count, matched, Whole. -/
import Derived.Test.YtpminhafljlldaaDoorQReach
import Derived.Test.YtpminhafljlldaaDoorQBigAll
namespace Go.Proofs.YtpminhafljlldaaDoor
open Go.RowKit
open Q (It Ver Tm Sp Rc Dm)

set_option maxHeartbeats 1000000 in
theorem reduce_ok (ad : Addr) (a b ro : Option Addr) (c e rc : Nat) (l : List Rc) (on : List Bool) (roots : List Sp) (w : World) (hR : RIn w a b l on) (hRo : Sl RSp 5 w ro roots) (hl : on.length = l.length) (h60 : l.length ≤ 60) (hE : ErrR w ad) :
    Calls Tryd.prog 25 #[.slice a l.length c, .slice b on.length e, .slice ro roots.length rc] w fun e w' => ∃ (k r : List Bool) (ka : Option Addr) (kc : Nat), e = .returned (.tuple #[.slice ka r.length kc, .nilIface]) ∧ R.Kept Rc.deps Q.mt l on k ∧ R.Reached Rc.deps Q.mt l k roots r ∧ Bools w' ka r ∧ Below w.heap.size w w' := by
  have HR := Lib.hid hR
  have HO := Lib.hid hRo
  have HE := Lib.hid hE
  have HL := Lib.hid hl
  clear hR hE hl hRo
  go_enter Tryd.func25, Tryd.ntmps25
  go_wp2_with fail
  (with_reducible refine (keep_ok ad a b c e l on _ HR.out HL.out h60 HE.out).mono ?_)
  rintro e w1 ⟨k, ka, kc, rfl, hk, hB, hb⟩
  have HK := Lib.hid hk
  have HB := Lib.hid hB
  have HBb := Lib.hid hb
  clear hk hB hb
  go_wp2_with fail
  (with_reducible refine (reach_ok ad a ka ro c kc rc l k roots _ ⟨(HR.out.below HBb.out).recs, HB.out⟩ (HO.out.below stays_RSp HBb.out) HK.out.len h60 (HE.out.below HBb.out)).mono ?_)
  rintro e w2 ⟨r, ra, rd, rfl, hr, hB2, hb2⟩
  have H2 := Lib.hid hr
  have HB2 := Lib.hid hB2
  have HBb2 := Lib.hid (fin HBb.out hb2)
  clear hr hB2 hb2
  go_wp2
  go_ret2
  exact ⟨k, r, ra, rd, rfl, HK.out, H2.out, HB2.out, HBb2.out⟩
set_option maxHeartbeats 1000000 in
theorem count_any (a : Option Addr) (c : Nat) (m : List Bool) (w : World) (hm : Bools w a m) :
    Calls Tryd.prog 31 #[.slice a m.length c] w fun e w' => e = .returned (.int .i64 (R.count m : Nat)) ∧ w = w' := by
  have HM := Lib.hid hm
  have hl := hm.len
  clear hm
  go_enter Tryd.func31, Tryd.ntmps31
  go_wp2
  go_loop [3, 5, 8] (fun s _ i => ∃ k : Nat, k ≤ m.length ∧ i = .int .i64 k ∧ s = .int .i64 (R.count (m.take k) : Nat) ∧ R.count (m.take k) ≤ k) (fun _ _ i => m.length - (intOf i).toNat)
  case atStart => exact ⟨0, by omega, rfl, rfl, by simp [R.count]⟩
  case round =>
    obtain ⟨k, hk, rfl, rfl, hc⟩ := hrel
    by_cases hlt : k < m.length
    · obtain ⟨x, hx⟩ : ∃ x, m[k]? = some x := ⟨m[k], by simp [hlt]⟩
      obtain ⟨b, off, rfl, hbl, hcb⟩ := HM.out.addr (by omega)
      have c0 := hcb k x hx
      have HS := Lib.hid (R.count_snoc hx)
      clear hcb hx
      cases x
      · go_wp2
        go_round
        case rel => exact ⟨k + 1, by omega, by go_num, (by rw [HS.out]; simp), (by rw [HS.out]; simp; omega)⟩
        case measure => simp [intOf]; omega
      · go_wp2
        go_round
        case rel => exact ⟨k + 1, by omega, by go_num, (by rw [HS.out]; simp), (by rw [HS.out]; simp; omega)⟩
        case measure => simp [intOf]; omega
    · go_wp2
      go_ret
      exact ⟨ret_int (by rw [List.take_of_length_le (by omega)]), rfl⟩
theorem some_app {p : Rc → Bool} {l : List Rc} {ch : List Bool} {k : Nat} (h : l.length ≤ k) (h' : ch.length ≤ k) : Q.some_ p (l.take k) (ch.take k) = Q.some_ p l ch := by
  rw [List.take_of_length_le h, List.take_of_length_le h']
set_option maxHeartbeats 2000000 in
set_option maxRecDepth 100000 in
theorem matched_any (s : Sp) (ra : Option Addr) (rc : Nat) (ad : Addr) (a b : Option Addr) (c e : Nat) (l : List Rc) (ch : List Bool) (w : World) (hs : SpAt w s ra rc) (hR : RIn w a b l ch) (hl : ch.length = l.length) (hE : ErrR w ad) :
    Calls Tryd.prog 60 #[.slice a l.length c, .slice b ch.length e, .agg #[.string s.chan, .string s.name, .slice ra s.rows.length rc, .string s.build, .int .i64 s.num]] w fun e w' => e = .returned (.bool (Q.some_ (Q.mt s) l ch)) ∧ Below w.heap.size w w' := by
  have HS := Lib.hid hs
  have HR := Lib.hid hR
  have HE := Lib.hid hE
  have HL := Lib.hid hl
  have hl3 := hR.bools.len
  have hl4 := hR.recs.len
  clear hs hR hE hl
  generalize hq : Q.some_ (Q.mt s) l ch = q
  have HQ := Lib.hid hq
  clear hq
  go_enter Tryd.func60, Tryd.ntmps60
  go_wp2
  generalize hW : w.alloc _ = W
  have h0 : Below w.heap.size w W := by subst hW; exact b1 _ _
  have hbox : W.heap.size = w.heap.size + 1 ∧ W.cell? ⟨w.heap.size, 0, none⟩ = some (.string s.chan) ∧ W.cell? ⟨w.heap.size, 1, none⟩ = some (.string s.name) ∧ W.cell? ⟨w.heap.size, 2, none⟩ = some (.slice ra s.rows.length rc) ∧ W.cell? ⟨w.heap.size, 3, none⟩ = some (.string s.build) ∧ W.cell? ⟨w.heap.size, 4, none⟩ = some (.int .i64 s.num) := by
    subst hW; refine ⟨?_, ?_, ?_, ?_, ?_, ?_⟩ <;> simp
  have H0 := Lib.hid h0
  have HBX := Lib.hid hbox
  clear h0 hW hbox
  go_loopw [7, 8, 11] (fun _ _ i wr => ∃ k : Nat, k ≤ l.length ∧ i = .int .i64 k ∧ Q.some_ (Q.mt s) (l.take k) (ch.take k) = false ∧ Below W.heap.size W wr) (fun _ _ i _ => l.length - (intOf i).toNat)
  case atStart => exact ⟨0, by omega, rfl, rfl, Below.refl _ _⟩
  case round =>
    obtain ⟨k, hk, rfl, hf, hbr⟩ := hrel
    have HF := Lib.hid hf
    have HB := Lib.hid hbr
    clear hf hbr
    by_cases hlt : k < l.length
    · have hltc : k < ch.length := by have := HL.out; omega
      obtain ⟨r, hx⟩ : ∃ x, l[k]? = some x := ⟨l[k], by simp [hlt]⟩
      obtain ⟨y, hy⟩ : ∃ x, ch[k]? = some x := ⟨ch[k], by simp [hltc]⟩
      obtain ⟨bb, off, pa, la, pc, lc, da, dc, ca, cc, fa, fc, rfl, hbl, ⟨t0, t1, t2, t3, t4, t5, t6, t7, t8, t9, t10, t11, t12⟩, hat, _⟩ := (HR.out.recs.below stays_RRc (fin H0.out HB.out)).cellsRc hx
      obtain ⟨b2, o2, rfl, hbl2, hcb⟩ := (HR.out.bools.below (fin H0.out HB.out)).addr (by omega)
      have hcy := hcb k y hy
      have hz : w.heap.size < wr.heap.size := by have := HB.out.size; have := HBX.out.1; omega
      have s0 := (HB.out.cell (p := ⟨w.heap.size, 0, none⟩) (by have := HBX.out.1; simp; omega)).trans HBX.out.2.1
      have s1 := (HB.out.cell (p := ⟨w.heap.size, 1, none⟩) (by have := HBX.out.1; simp; omega)).trans HBX.out.2.2.1
      have s2 := (HB.out.cell (p := ⟨w.heap.size, 2, none⟩) (by have := HBX.out.1; simp; omega)).trans HBX.out.2.2.2.1
      have s3 := (HB.out.cell (p := ⟨w.heap.size, 3, none⟩) (by have := HBX.out.1; simp; omega)).trans HBX.out.2.2.2.2.1
      have s4 := (HB.out.cell (p := ⟨w.heap.size, 4, none⟩) (by have := HBX.out.1; simp; omega)).trans HBX.out.2.2.2.2.2
      have HX := Lib.hid hx
      have HY := Lib.hid hy
      have HA := Lib.hid hat
      clear hx hy hcb hat
      cases y
      · go_wp2
        go_roundw
        case rel => exact ⟨k + 1, by omega, by go_num, Q.some_snoc HX.out HY.out HF.out rfl, HB.out.alloc HB.out.size _⟩
        case measure => simp [intOf]; omega
      · go_wp2_with fail
        (with_reducible refine (match_any s r ra pa la rc pc lc _ _ _ ad _ (HS.out.below (fin (fin H0.out HB.out) (b1 _ _))) (HA.out.below (b1 _ _)) (HE.out.below (fin (fin H0.out HB.out) (b1 _ _)))).mono ?_)
        rintro e w2 ⟨rfl, hb⟩
        have HB2 := Lib.hid (fin (HB.out.alloc HB.out.size _) hb)
        clear hb
        cases hm : Q.mt s r
        · have HM := Lib.hid hm
          clear hm
          go_wp2
          go_roundw
          case rel => exact ⟨k + 1, by omega, by go_num, Q.some_snoc HX.out HY.out HF.out HM.out, HB2.out⟩
          case measure => simp [intOf]; omega
        · have HM := Lib.hid hm
          clear hm
          go_wp2
          go_ret
          exact ⟨ret_bool (by rw [← HQ.out, Q.some_hit HX.out HY.out HM.out]), fin H0.out HB2.out⟩
    · go_wp2
      go_ret
      refine ⟨ret_bool ?_, fin H0.out HB.out⟩
      rw [← HQ.out, ← HF.out, some_app (by omega) (by have := HL.out; omega)]
/-- is all that a record needs chosen -/
def Q.wholeAt (l : List Rc) (ch : List Bool) (i : Nat) : Bool := match l[i]?, ch[i]? with | some r, some true => r.deps.all fun s => Q.some_ (Q.mt s) l ch | _, _ => true
def Q.wholeB (l : List Rc) (ch : List Bool) : Bool := decide (ch.length = l.length) && (List.range l.length).all (Q.wholeAt l ch)
theorem wholeAt_off {l : List Rc} {ch : List Bool} {k : Nat} {r : Rc} (hr : l[k]? = some r) (hc : ch[k]? = some false) : Q.wholeAt l ch k = true := by unfold Q.wholeAt; rw [hr, hc]
theorem wholeAt_on {l : List Rc} {ch : List Bool} {k : Nat} {r : Rc} (hr : l[k]? = some r) (hc : ch[k]? = some true) : Q.wholeAt l ch k = r.deps.all fun s => Q.some_ (Q.mt s) l ch := by unfold Q.wholeAt; rw [hr, hc]
theorem wholeB_no {l : List Rc} {ch : List Bool} {k : Nat} (hk : k < l.length) (h : Q.wholeAt l ch k = false) : Q.wholeB l ch = false := by
  unfold Q.wholeB
  have : (List.range l.length).all (Q.wholeAt l ch) = false := List.all_eq_false.2 ⟨k, List.mem_range.2 hk, by simp [h]⟩
  rw [this]; simp
theorem some_iff {l : List Rc} {ch : List Bool} {s : Sp} : Q.some_ (Q.mt s) l ch = true ↔ R.Has Q.mt l ch s := by
  unfold Q.some_ R.Has R.On
  rw [List.any_eq_true]
  constructor
  · rintro ⟨⟨r, y⟩, hm, hp⟩
    obtain ⟨i, hi⟩ := List.getElem?_of_mem hm
    rw [List.getElem?_zip_eq_some] at hi
    simp at hp
    exact ⟨i, r, by rw [hi.2, hp.1], hi.1, hp.2⟩
  · rintro ⟨j, q, h1, h2, h3⟩
    refine ⟨(q, true), List.mem_of_getElem? (i := j) ?_, by simp [h3]⟩
    rw [List.getElem?_zip_eq_some]; exact ⟨h2, h1⟩
theorem wholeB_iff {l : List Rc} {ch : List Bool} (hl : ch.length = l.length) : Q.wholeB l ch = true ↔ R.Whole Rc.deps Q.mt l ch := by
  unfold Q.wholeB R.Whole
  rw [decide_eq_true hl, Bool.true_and, List.all_eq_true]
  constructor
  · intro h i r hi hr s hs
    have := h i (List.mem_range.2 (List.getElem?_eq_some_iff.1 hr).1)
    rw [wholeAt_on hr hi, List.all_eq_true] at this
    exact some_iff.1 (this s hs)
  · intro h i hi
    have hi' : i < l.length := List.mem_range.1 hi
    unfold Q.wholeAt
    split
    · rename_i r hr hc
      rw [List.all_eq_true]
      exact fun s hs => some_iff.2 (h i r hc hr s hs)
    · rfl
set_option maxHeartbeats 2000000 in
set_option maxRecDepth 100000 in
theorem whole_any (ad : Addr) (a b : Option Addr) (c e : Nat) (l : List Rc) (ch : List Bool) (w : World) (hR : RIn w a b l ch) (hE : ErrR w ad) :
    Calls Tryd.prog 32 #[.slice a l.length c, .slice b ch.length e] w fun e w' => e = .returned (.bool (Q.wholeB l ch)) ∧ Below w.heap.size w w' := by
  have HR := Lib.hid hR
  have HE := Lib.hid hE
  have hl3 := hR.bools.len
  have hl4 := hR.recs.len
  clear hR hE
  generalize hq : Q.wholeB l ch = q
  have HQ := Lib.hid hq
  clear hq
  by_cases hl : ch.length = l.length
  case neg =>
    have n1 : ((ch.length : Int) != (l.length : Int)) = true := by rw [bne_iff_ne]; omega
    go_enter Tryd.func32, Tryd.ntmps32
    go_wp2
    go_ret
    exact ⟨ret_bool (by rw [← HQ.out]; unfold Q.wholeB; simp [hl]), Below.refl _ _⟩
  have n1 : ((ch.length : Int) != (l.length : Int)) = false := by simp [hl]
  have HL := Lib.hid hl
  clear hl
  go_enter Tryd.func32, Tryd.ntmps32
  go_wp2
  clear n1
  go_loopw [5, 6, 8, 16] (fun _ _ _ i wr => ∃ k : Nat, k ≤ l.length ∧ i = .int .i64 k ∧ (∀ j, j < k → Q.wholeAt l ch j = true) ∧ Below w.heap.size w wr) (fun _ _ _ i _ => l.length - (intOf i).toNat)
  case atStart => exact ⟨0, by omega, rfl, (fun j hj => by omega), Below.refl _ _⟩
  case round =>
    obtain ⟨k, hk, rfl, hf, hbr⟩ := hrel
    have HF := Lib.hid hf
    have HB := Lib.hid hbr
    clear hf hbr
    by_cases hlt : k < l.length
    · have hltc : k < ch.length := by have := HL.out; omega
      obtain ⟨r, hx⟩ : ∃ x, l[k]? = some x := ⟨l[k], by simp [hlt]⟩
      obtain ⟨y, hy⟩ : ∃ x, ch[k]? = some x := ⟨ch[k], by simp [hltc]⟩
      obtain ⟨bb, off, pa, la, pc, lc, da, dc, ca, cc, fa, fc, rfl, hbl, ⟨t0, t1, t2, t3, t4, t5, t6, t7, t8, t9, t10, t11, t12⟩, hat⟩ := (HR.out.recs.below stays_RRc HB.out).rcAll hx
      obtain ⟨b2, o2, rfl, hbl2, hcb⟩ := (HR.out.bools.below HB.out).addr (by omega)
      have hcy := hcb k y hy
      have hdl := hat.deps.len
      have HX := Lib.hid hx
      have HY := Lib.hid hy
      have HA := Lib.hid hat
      clear hx hy hcb hat
      cases y
      · go_wp2
        go_roundw
        case rel => exact ⟨k + 1, by omega, by go_num, (fun j hj => by rcases Nat.lt_or_ge j k with h' | h'; exact HF.out j h'; rw [show j = k by omega]; exact wholeAt_off HX.out HY.out), HB.out.alloc HB.out.size _⟩
        case measure => simp [intOf]; omega
      · obtain ⟨wo, rfl⟩ : ∃ wo : World, wo = wr := ⟨_, rfl⟩
        go_wp2
        generalize hW : wo.alloc _ = W
        have hbW : Below wo.heap.size wo W := by subst hW; exact b1 _ _
        have HBW := Lib.hid hbW
        clear hW hbW t0 t1 t2 t3 t4 t5 t6 t7 t8 t9 t10 t11 t12 hcy
        go_loopw [8, 29] (fun _ i wr => ∃ j : Nat, j ≤ r.deps.length ∧ i = .int .i64 j ∧ (r.deps.take j).all (fun s => Q.some_ (Q.mt s) l ch) = true ∧ Below wo.heap.size wo wr) (fun _ i _ => r.deps.length - (intOf i).toNat)
        case atStart => exact ⟨0, by omega, rfl, rfl, HBW.out⟩
        case round =>
          obtain ⟨j, hj, rfl, hall, hbr⟩ := hrel
          have HAL := Lib.hid hall
          have HB2 := Lib.hid hbr
          clear hall hbr
          by_cases hlt2 : j < r.deps.length
          · obtain ⟨s, hs⟩ : ∃ x, r.deps[j]? = some x := ⟨r.deps[j], by simp [hlt2]⟩
            obtain ⟨b3, o3, ra, rc, rfl, hbl3, ⟨s0, s1, s2, s3, s4⟩, hsp⟩ := (HA.out.deps.below stays_RSp HB2.out).cellsSp hs
            have HSP := Lib.hid hsp
            have HS := Lib.hid hs
            clear hs hsp
            go_wp2_with fail
            (with_reducible refine (matched_any s ra rc ad _ _ c e l ch _ (HSP.out.below (b1 _ _)) ((HR.out.below (fin HB.out HB2.out)).below (b1 _ _)) HL.out ((HE.out.below (fin HB.out HB2.out)).below (b1 _ _))).mono ?_)
            rintro e w2 ⟨rfl, hb⟩
            have HB4 := Lib.hid (fin (HB2.out.alloc HB2.out.size _) hb)
            clear hb
            cases hm : Q.some_ (Q.mt s) l ch
            · have HM := Lib.hid hm
              clear hm
              go_wp2
              go_ret
              exact ⟨ret_bool (by rw [← HQ.out, wholeB_no hlt (by rw [wholeAt_on HX.out HY.out]; exact all_miss HS.out HM.out)]), fin HB.out HB4.out⟩
            · have HM := Lib.hid hm
              clear hm
              go_wp2
              go_roundw
              case rel => exact ⟨j + 1, by omega, by go_num, all_snoc HS.out HAL.out HM.out, HB4.out⟩
              case measure => simp [intOf]; omega
          · go_wp2
            go_roundw
            case rel =>
              refine ⟨k + 1, by omega, by go_num, (fun i hi => ?_), fin HB.out HB2.out⟩
              rcases Nat.lt_or_ge i k with h' | h'
              · exact HF.out i h'
              · rw [show i = k by omega, wholeAt_on HX.out HY.out]
                have := HAL.out
                rwa [List.take_of_length_le (by omega)] at this
            case measure => simp [intOf]; omega
    · go_wp2
      go_ret
      refine ⟨ret_bool ?_, HB.out⟩
      rw [← HQ.out]
      unfold Q.wholeB
      rw [decide_eq_true HL.out, Bool.true_and, List.all_eq_true.2 (fun i hi => HF.out i (by have := List.mem_range.1 hi; omega))]
end Go.Proofs.YtpminhafljlldaaDoor

/- Contracts of the document's Match (spec), Has, Needs, Whole (reduce). -/
import Derived.Test.YtpminhafljlldaaDoorDGlob
import Derived.Test.YtpminhafljlldaaDoorDRulesMath
import Derived.Test.YtpminhafljlldaaDoorQFits
import Derived.Test.YtpminhafljlldaaDoorQBigAll
namespace Go.Proofs.YtpminhafljlldaaDoor
open Go.RowKit
open Q (It Ver Tm Sp Rc Dm)

theorem dsome_app {p : Rc → Bool} {l : List Rc} {ch : List Bool} {k : Nat} (h : l.length ≤ k) (h' : ch.length ≤ k) : Q.some_ p (l.take k) (ch.take k) = Q.some_ p l ch := by
  rw [List.take_of_length_le h, List.take_of_length_le h']
set_option maxHeartbeats 2000000 in
set_option maxRecDepth 100000 in
theorem dmatch_any (s : Sp) (r : Rc) (ra pa la : Option Addr) (rc pc lc : Nat) (d1 d2 d3 : Value) (w : World) (hs : SpAt w s ra rc) (hr : RcAt w r pa la pc lc) :
    Calls Tryd.prog 43 #[.agg #[.string s.chan, .string s.name, .slice ra s.rows.length rc, .string s.build, .int .i64 s.num], .agg #[.string r.chan, .string r.file, .string r.name, .string r.text, .int .i64 r.ver.ep, .slice pa r.ver.parts.length pc, .slice la r.ver.loc.length lc, .string r.build, .int .i64 r.num, .int .i64 r.time, d1, d2, d3]] w fun e w' => e = .returned (.bool (Q.mt s r)) ∧ Below w.heap.size w w' := by
  have HS := Lib.hid hs
  have HR := Lib.hid hr
  clear hs hr
  generalize hq : Q.mt s r = q
  have HQ := Lib.hid hq
  clear hq
  have h2 : ∀ o o', Below w.heap.size w ((w.alloc o).alloc o') := fun o o' => ((Below.refl _ _).alloc (Nat.le_refl _) o).alloc (by simp) o'
  have H2 := Lib.hid h2
  clear h2
  generalize hgl : Q.globM s.build.toList r.build.toList = g
  have HG := Lib.hid hgl
  have HGL := Lib.hid (fun W => dglob_any s.build r.build W HS.out.build HR.out.build)
  generalize hh : Q.has s.rows r.ver = z
  have HH := Lib.hid hh
  clear hgl hh
  go_enter Tryd.func43, Tryd.ntmps43
  go_wp2_with (first
    | (go_at_call 77; refine (HGL.out _).mono ?_; rintro e w3 ⟨rfl, hb3⟩; rw [HG.out]; have hbf : Below w.heap.size w w3 := fin hbw hb3; clear hb3)
    | (go_at_call 76; refine (dhas8_any s.rows _ _ r.ver pa la pc lc _ (HS.out.below (H2.out _ _)).rows (HR.out.below (H2.out _ _)).ver).mono ?_; rintro e w2 ⟨rfl, hb⟩; rw [HH.out];
       have hbw : Below w.heap.size w w2 := fin (H2.out _ _) hb
       have k0 : w2.cell? ⟨w.heap.size, 3, none⟩ = some (.string s.build) := (hb.cell (p := ⟨w.heap.size, 3, none⟩) (by simp; try omega)).trans (by simp)
       have k1 : w2.cell? ⟨w.heap.size + 1, 7, none⟩ = some (.string r.build) := (hb.cell (p := ⟨w.heap.size + 1, 7, none⟩) (by simp; try omega)).trans (by simp)
       clear hb))
  all_goals
    go_ret
    refine ⟨ret_bool ?_, (by first | exact hbf | exact hbw | exact H2.out _ _)⟩
    rw [← HQ.out]
    unfold Q.mt
    rw [HG.out, HH.out]
    simp_all
set_option maxHeartbeats 2000000 in
set_option maxRecDepth 100000 in
theorem dhas_any (s : Sp) (ra : Option Addr) (rc : Nat) (a b : Option Addr) (c e : Nat) (l : List Rc) (ch : List Bool) (w : World) (hs : SpAt w s ra rc) (hR : RIn w a b l ch) (hl : ch.length = l.length) :
    Calls Tryd.prog 33 #[.slice a l.length c, .slice b ch.length e, .agg #[.string s.chan, .string s.name, .slice ra s.rows.length rc, .string s.build, .int .i64 s.num]] w fun e w' => e = .returned (.bool (Q.some_ (Q.mt s) l ch)) ∧ Below w.heap.size w w' := by
  have HS := Lib.hid hs
  have HR := Lib.hid hR
  have HL := Lib.hid hl
  have hl3 := hR.bools.len
  have hl4 := hR.recs.len
  clear hs hR hl
  generalize hq : Q.some_ (Q.mt s) l ch = q
  have HQ := Lib.hid hq
  clear hq
  go_enter Tryd.func33, Tryd.ntmps33
  go_wp2
  generalize hW : w.alloc _ = W
  have h0 : Below w.heap.size w W := by subst hW; exact b1 _ _
  have hbox : W.heap.size = w.heap.size + 1 ∧ W.cell? ⟨w.heap.size, 0, none⟩ = some (.string s.chan) ∧ W.cell? ⟨w.heap.size, 1, none⟩ = some (.string s.name) ∧ W.cell? ⟨w.heap.size, 2, none⟩ = some (.slice ra s.rows.length rc) ∧ W.cell? ⟨w.heap.size, 3, none⟩ = some (.string s.build) ∧ W.cell? ⟨w.heap.size, 4, none⟩ = some (.int .i64 s.num) := by
    subst hW; refine ⟨?_, ?_, ?_, ?_, ?_, ?_⟩ <;> simp
  have H0 := Lib.hid h0
  have HBX := Lib.hid hbox
  clear h0 hW hbox
  go_loopw [7, 8, 11] (fun _ _ i wr => ∃ k : Nat, k ≤ l.length ∧ i = .int .i64 k ∧ Q.some_ (Q.mt s) (l.take k) (ch.take k) = false ∧ Below W.heap.size W wr) (fun _ _ i _ => l.length - (intOf i).toNat)
  case atStart => exact ⟨0, by omega, rfl, rfl, Below.refl _ _⟩
  case round =>
    obtain ⟨k, hk, rfl, hf, hbr⟩ := hrel
    have HF := Lib.hid hf
    have HB := Lib.hid hbr
    clear hf hbr
    by_cases hlt : k < l.length
    · have hltc : k < ch.length := by have := HL.out; omega
      obtain ⟨r, hx⟩ : ∃ x, l[k]? = some x := ⟨l[k], by simp [hlt]⟩
      obtain ⟨y, hy⟩ : ∃ x, ch[k]? = some x := ⟨ch[k], by simp [hltc]⟩
      obtain ⟨bb, off, pa, la, pc, lc, da, dc, ca, cc, fa, fc, rfl, hbl, ⟨t0, t1, t2, t3, t4, t5, t6, t7, t8, t9, t10, t11, t12⟩, hat, _⟩ := (HR.out.recs.below stays_RRc (fin H0.out HB.out)).cellsRc hx
      obtain ⟨b2, o2, rfl, hbl2, hcb⟩ := (HR.out.bools.below (fin H0.out HB.out)).addr (by omega)
      have hcy := hcb k y hy
      have hz : w.heap.size < wr.heap.size := by have := HB.out.size; have := HBX.out.1; omega
      have s0 := (HB.out.cell (p := ⟨w.heap.size, 0, none⟩) (by have := HBX.out.1; simp; omega)).trans HBX.out.2.1
      have s1 := (HB.out.cell (p := ⟨w.heap.size, 1, none⟩) (by have := HBX.out.1; simp; omega)).trans HBX.out.2.2.1
      have s2 := (HB.out.cell (p := ⟨w.heap.size, 2, none⟩) (by have := HBX.out.1; simp; omega)).trans HBX.out.2.2.2.1
      have s3 := (HB.out.cell (p := ⟨w.heap.size, 3, none⟩) (by have := HBX.out.1; simp; omega)).trans HBX.out.2.2.2.2.1
      have s4 := (HB.out.cell (p := ⟨w.heap.size, 4, none⟩) (by have := HBX.out.1; simp; omega)).trans HBX.out.2.2.2.2.2
      have HX := Lib.hid hx
      have HY := Lib.hid hy
      have HA := Lib.hid hat
      clear hx hy hcb hat
      cases y
      · go_wp2
        go_roundw
        case rel => exact ⟨k + 1, by omega, by go_num, Q.some_snoc HX.out HY.out HF.out rfl, HB.out.alloc HB.out.size _⟩
        case measure => simp [intOf]; omega
      · go_wp2_with fail
        (with_reducible refine (dmatch_any s r ra pa la rc pc lc _ _ _ _ (HS.out.below (fin (fin H0.out HB.out) (b1 _ _))) (HA.out.below (b1 _ _))).mono ?_)
        rintro e w2 ⟨rfl, hb⟩
        have HB2 := Lib.hid (fin (HB.out.alloc HB.out.size _) hb)
        clear hb
        cases hm : Q.mt s r
        · have HM := Lib.hid hm
          clear hm
          go_wp2
          go_roundw
          case rel => exact ⟨k + 1, by omega, by go_num, Q.some_snoc HX.out HY.out HF.out HM.out, HB2.out⟩
          case measure => simp [intOf]; omega
        · have HM := Lib.hid hm
          clear hm
          go_wp2
          go_ret
          exact ⟨ret_bool (by rw [← HQ.out, Q.some_hit HX.out HY.out HM.out]), fin H0.out HB2.out⟩
    · go_wp2
      go_ret
      refine ⟨ret_bool ?_, fin H0.out HB.out⟩
      rw [← HQ.out, ← HF.out, dsome_app (by omega) (by have := HL.out; omega)]
set_option maxHeartbeats 2000000 in
set_option maxRecDepth 100000 in
theorem dneeds_any (r : Rc) (pa la da ca fa : Option Addr) (pc lc dc cc fc : Nat) (a b : Option Addr) (c e : Nat) (l : List Rc) (ch : List Bool) (w : World) (hD : Sl RSp 5 w da r.deps) (hR : RIn w a b l ch) (hl : ch.length = l.length) :
    Calls Tryd.prog 59 #[.slice a l.length c, .slice b ch.length e, .agg #[.string r.chan, .string r.file, .string r.name, .string r.text, .int .i64 r.ver.ep, .slice pa r.ver.parts.length pc, .slice la r.ver.loc.length lc, .string r.build, .int .i64 r.num, .int .i64 r.time, .slice da r.deps.length dc, .slice ca r.cons.length cc, .slice fa r.feats.length fc]] w fun e w' => e = .returned (.bool (Q.dneeds l ch r)) ∧ Below w.heap.size w w' := by
  have hl1 := hD.len
  have HD := Lib.hid hD
  have HR := Lib.hid hR
  have HL := Lib.hid hl
  generalize hq : Q.dneeds l ch r = q
  have HQ := Lib.hid hq
  clear hD hR hq hl
  go_enter Tryd.func59, Tryd.ntmps59
  go_wp2
  generalize hW : w.alloc _ = W
  have h0 : Below w.heap.size w W := by subst hW; exact b1 _ _
  have H0 := Lib.hid h0
  clear h0 hW
  go_loopw [8, 12] (fun _ i wr => ∃ k : Nat, k ≤ r.deps.length ∧ i = .int .i64 k ∧ (r.deps.take k).all (fun s => Q.dhas l ch s) = true ∧ Below W.heap.size W wr) (fun _ i _ => r.deps.length - (intOf i).toNat)
  case atStart => exact ⟨0, Nat.zero_le _, rfl, rfl, Below.refl _ _⟩
  case round =>
    obtain ⟨k, hk, rfl, hf, hbr⟩ := hrel
    have HF := Lib.hid hf
    have HB := Lib.hid hbr
    clear hf hbr
    by_cases hlt : k < r.deps.length
    · obtain ⟨s, hx⟩ : ∃ x, r.deps[k]? = some x := ⟨r.deps[k], by simp [hlt]⟩
      obtain ⟨bb, off, ra, rc, rfl, hbl, ⟨t0, t1, t2, t3, t4⟩, hat⟩ := (HD.out.below stays_RSp (fin H0.out HB.out)).cellsSp hx
      have HX := Lib.hid hx
      have HA := Lib.hid hat
      clear hx hat
      go_wp2_with fail
      (with_reducible refine (dhas_any s ra rc a b c e l ch _ (HA.out.below (b1 _ _)) ((HR.out.below (fin H0.out HB.out)).below (b1 _ _)) HL.out).mono ?_)
      rintro e w2 ⟨rfl, hb⟩
      have HB2 := Lib.hid (fin (fin HB.out (b1 _ _)) hb)
      clear hb
      rw [Q.some_dhas]
      generalize hs : Q.dhas l ch s = v
      have HV := Lib.hid hs
      clear hs
      cases v
      · go_wp2
        go_ret
        exact ⟨ret_bool (by rw [← HQ.out]; unfold Q.dneeds; rw [all_miss HX.out HV.out]), fin H0.out HB2.out⟩
      · go_wp2
        go_roundw
        case rel => exact ⟨k + 1, by omega, by go_num, all_snoc HX.out HF.out HV.out, HB2.out⟩
        case measure => simp [intOf]; omega
    · go_wp2
      go_ret
      have hff := HF.out
      rw [List.take_of_length_le (by omega)] at hff
      exact ⟨ret_bool (by rw [← HQ.out]; unfold Q.dneeds; rw [hff]), fin H0.out HB.out⟩
set_option maxHeartbeats 2000000 in
set_option maxRecDepth 100000 in
theorem dwhole_any (a b : Option Addr) (c e : Nat) (l : List Rc) (ch : List Bool) (w : World) (hR : RIn w a b l ch) (hl : ch.length = l.length) :
    Calls Tryd.prog 35 #[.slice a l.length c, .slice b ch.length e] w fun e w' => e = .returned (.bool (Q.dwhole l ch)) ∧ Below w.heap.size w w' := by
  have HR := Lib.hid hR
  have HL := Lib.hid hl
  have hl3 := hR.bools.len
  have hl4 := hR.recs.len
  clear hR hl
  generalize hq : Q.dwhole l ch = q
  have HQ := Lib.hid hq
  clear hq
  go_enter Tryd.func35, Tryd.ntmps35
  go_wp2
  go_loopw [5, 6, 9] (fun _ _ i wr => ∃ k : Nat, k ≤ l.length ∧ i = .int .i64 k ∧ (∀ j, j < k → Q.dwholeAt l ch j = true) ∧ Below w.heap.size w wr) (fun _ _ i _ => l.length - (intOf i).toNat)
  case atStart => exact ⟨0, by omega, rfl, (fun j hj => by omega), Below.refl _ _⟩
  case round =>
    obtain ⟨k, hk, rfl, hf, hbr⟩ := hrel
    have HF := Lib.hid hf
    have HB := Lib.hid hbr
    clear hf hbr
    by_cases hlt : k < l.length
    · have hltc : k < ch.length := by have := HL.out; omega
      obtain ⟨r, hx⟩ : ∃ x, l[k]? = some x := ⟨l[k], by simp [hlt]⟩
      obtain ⟨y, hy⟩ : ∃ x, ch[k]? = some x := ⟨ch[k], by simp [hltc]⟩
      obtain ⟨bb, off, pa, la, pc, lc, da, dc, ca, cc, fa, fc, rfl, hbl, ⟨t0, t1, t2, t3, t4, t5, t6, t7, t8, t9, t10, t11, t12⟩, hat⟩ := (HR.out.recs.below stays_RRc HB.out).rcAll hx
      obtain ⟨b2, o2, rfl, hbl2, hcb⟩ := (HR.out.bools.below HB.out).addr (by omega)
      have hcy := hcb k y hy
      have HX := Lib.hid hx
      have HY := Lib.hid hy
      have HA := Lib.hid hat
      clear hx hy hcb hat
      cases y
      · go_wp2
        go_roundw
        case rel => exact ⟨k + 1, by omega, by go_num, (fun j hj => by rcases Nat.lt_or_ge j k with h' | h'; exact HF.out j h'; rw [show j = k by omega]; exact Q.dwholeAt_off HY.out), HB.out.alloc HB.out.size _⟩
        case measure => simp [intOf]; omega
      · go_wp2_with fail
        (with_reducible refine (dneeds_any r _ _ _ _ _ _ _ _ _ _ _ _ _ _ l ch _ (HA.out.below (b1 _ _)).deps ((HR.out.below HB.out).below (b1 _ _)) HL.out).mono ?_)
        rintro e w2 ⟨rfl, hb⟩
        have HB2 := Lib.hid (fin (fin HB.out (b1 _ _)) hb)
        clear hb
        generalize hs : Q.dneeds l ch r = v
        have HV := Lib.hid hs
        clear hs
        cases v
        · go_wp2
          go_ret
          exact ⟨ret_bool (by rw [← HQ.out]; unfold Q.dwhole; rw [all_range_miss hlt (by rw [Q.dwholeAt_on HX.out HY.out]; exact HV.out)]), HB2.out⟩
        · go_wp2
          go_roundw
          case rel => exact ⟨k + 1, by omega, by go_num, (fun j hj => by rcases Nat.lt_or_ge j k with h' | h'; exact HF.out j h'; rw [show j = k by omega, Q.dwholeAt_on HX.out HY.out]; exact HV.out), HB2.out⟩
          case measure => simp [intOf]; omega
    · go_wp2
      go_ret
      exact ⟨ret_bool (by rw [← HQ.out]; unfold Q.dwhole; rw [all_range_all fun j hj => HF.out j (by omega)]), HB.out⟩
end Go.Proofs.YtpminhafljlldaaDoor

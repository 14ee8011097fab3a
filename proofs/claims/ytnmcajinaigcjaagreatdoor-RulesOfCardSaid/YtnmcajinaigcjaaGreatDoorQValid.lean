/- The contract of rules.Valid. -/
import Derived.Test.YtnmcajinaigcjaaGreatDoorQBroken
import Derived.Maps.Own
import Derived.Maps.OwnOps
import Derived.Maps.Views
import Derived.Maps.OwnSet
namespace Go.Proofs.YtnmcajinaigcjaaGreatDoor
open Go.RowKit Go.Maps Go.WideMaps
open Q (It Ver Tm Sp Rc Dm)

theorem keyedS : Keyed Tryz.prog 9 := string_keyed Tryz.underlying9
theorem zeroInt (w : World) : (zeroValue 3).run Tryz.prog w = .ok (.int .i64 0) w := by kernel_rfl
/-- how many of the first k are chosen and have a name -/
def cnt (l : List Rc) (ch : List Bool) (k : Nat) (nm : List UInt8) : Nat := ((List.range k).filter fun j => (ch[j]? == some true) && ((l[j]?).map (·.name.toList) == some nm)).length
theorem cnt_le (l : List Rc) (ch : List Bool) (k : Nat) (nm : List UInt8) : cnt l ch k nm ≤ k := by
  unfold cnt; have := List.length_filter_le (fun j => (ch[j]? == some true) && ((l[j]?).map (·.name.toList) == some nm)) (List.range k); simpa using this
theorem cnt_succ (l : List Rc) (ch : List Bool) (k : Nat) (nm : List UInt8) : cnt l ch (k + 1) nm = cnt l ch k nm + (if (ch[k]? == some true) && ((l[k]?).map (·.name.toList) == some nm) then 1 else 0) := by
  unfold cnt
  rw [List.range_succ, List.filter_append, List.length_append]
  congr 1
  by_cases h : ((ch[k]? == some true) && ((l[k]?).map (·.name.toList) == some nm)) = true <;> simp [h]
theorem cnt_pos (l : List Rc) (ch : List Bool) (k : Nat) (nm : List UInt8) : ((List.range k).any fun j => (ch[j]? == some true) && ((l[j]?).map (·.name.toList) == some nm)) = decide (0 < cnt l ch k nm) := by
  rw [Bool.eq_iff_iff, List.any_eq_true, decide_eq_true_iff]
  unfold cnt
  rw [List.length_pos_iff_exists_mem]
  constructor
  · rintro ⟨x, h1, h2⟩; exact ⟨x, List.mem_filter.2 ⟨h1, h2⟩⟩
  · rintro ⟨x, h⟩; exact ⟨x, (List.mem_filter.1 h).1, (List.mem_filter.1 h).2⟩
/-- the map counts -/
def Counts (l : List Rc) (ch : List Bool) (k : Nat) (D : DataW Unit) : Prop := ∀ nm : List UInt8, D.atKey (.string nm) (.lit (.int .i64 0)) = .lit (.int .i64 (cnt l ch k nm))
abbrev OwnM (w : World) (B k : Nat) (D : DataW Unit) : Prop := w.ownsMap Tryz.prog 9 (plainElem Tryz.prog 3) B k D
theorem OwnM.same {w w' : World} {B k : Nat} {D : DataW Unit} (h : OwnM w B k D) (he : w'.heap[B]? = w.heap[B]?) : OwnM w' B k D := by
  obtain ⟨es, clock, h1, h2⟩ := h; exact ⟨es, clock, he.trans h1, h2⟩
theorem OwnM.lt {w : World} {B k : Nat} {D : DataW Unit} (h : OwnM w B k D) : B < w.heap.size := by
  obtain ⟨es, clock, h1, _⟩ := h; exact (Array.getElem?_eq_some_iff.1 h1).1
theorem OwnM.below {w w' : World} {B k : Nat} {D : DataW Unit} (h : OwnM w B k D) (hb : Below w.heap.size w w') : OwnM w' B k D := h.same (hb.block _ h.lt)
theorem OwnM.le {w : World} {B k k' : Nat} {D : DataW Unit} (h : OwnM w B k D) (hk : k ≤ k') : OwnM w B k' D := by
  obtain ⟨es, clock, h1, h2, h3, h4⟩ := h; exact ⟨es, clock, h1, h2, Nat.le_trans h3 hk, h4⟩
theorem Counts.skip {l : List Rc} {ch : List Bool} {k : Nat} {D : DataW Unit} (h : Counts l ch k D) (hc : ch[k]? = some false) : Counts l ch (k + 1) D := fun nm => by
  rw [h nm, cnt_succ, hc]; simp
theorem Counts.put {l : List Rc} {ch : List Bool} {k : Nat} {D : DataW Unit} {r : Rc} {B n : Nat} {w : World} (hO : OwnM w B n D) (h : Counts l ch k D) (hc : ch[k]? = some true) (hr : l[k]? = some r) :
    Counts l ch (k + 1) (D.put (.string r.name.toList) (.lit (.int .i64 ((cnt l ch k r.name.toList : Int) + 1)))) := fun nm => by
  rw [cnt_succ, hc, hr]
  by_cases e : nm = r.name.toList
  · subst e
    rw [atKey_put_same (hO.tidy keyedS).isMap (show WideAt.IsKeyLit (.string r.name.toList) from trivial)]
    simp
  · rw [atKey_put_other (by simpa using e), h nm]
    have : (some r.name.toList == some nm) = false := by simp; exact fun x => e x.symm
    simp [this]
theorem cntC {l : List Rc} {ch : List Bool} {k : Nat} {D : DataW Unit} {nm : List UInt8} {c : Int} (h : Counts l ch k D) (hat : D.atKey (.string nm) (.lit (.int .i64 0)) = .lit (.int .i64 c)) : c = (cnt l ch k nm : Int) := by
  rw [h nm] at hat; injection hat with hat; injection hat with _ hat; exact hat.symm
theorem cntC2 {l : List Rc} {ch : List Bool} {k : Nat} {D : DataW Unit} {r : Rc} {c : Int} (h : Counts l ch (k + 1) D) (hc : ch[k]? = some true) (hr : l[k]? = some r) (hat : D.atKey (.string r.name.toList) (.lit (.int .i64 0)) = .lit (.int .i64 c)) : c = (cnt l ch k r.name.toList : Int) + 1 := by
  rw [cntC h hat, cnt_succ, hc, hr]; simp
theorem keyN {s : ByteArray} (h : SzS s) : keyOf Tryz.prog 9 (.string s) = some (.string s.toList) := by
  rw [ByteArray.toList_eq]; exact keyOf_string_mk Tryz.underlying9 (by unfold SzS at h; unfold maxLen; omega)
theorem okAt_off {l : List Rc} {on ch : List Bool} {k : Nat} {r : Rc} (hr : l[k]? = some r) (hc : ch[k]? = some false) : Q.okAt l on ch k = true := by unfold Q.okAt; rw [hr, hc]
theorem okAt_on {l : List Rc} {on ch : List Bool} {k : Nat} {r : Rc} {y : Bool} (hr : l[k]? = some r) (hc : ch[k]? = some true) (hy : on[k]? = some y) : Q.okAt l on ch k = (y && decide (cnt l ch k r.name.toList = 0) && Q.fits l ch r) := by
  unfold Q.okAt; rw [hr, hc, hy]
  show _ = _
  simp only [cnt_pos]
  have e : (!decide (0 < cnt l ch k r.name.toList)) = decide (cnt l ch k r.name.toList = 0) := by rw [Bool.eq_iff_iff]; simp
  rw [e]
  cases y <;> simp
theorem valid_off {l : List Rc} {on ch : List Bool} {ds : List Dm} {k : Nat} (hk : k < l.length) (h : Q.okAt l on ch k = false) : Q.valid l on ch ds = false := by
  unfold Q.valid; rw [all_range_miss hk h]; simp
theorem SzName {w : World} {a : Option Addr} {xs : List Rc} (h : Sl RRc 13 w a xs) {i : Nat} {r : Rc} (hx : xs[i]? = some r) : SzS r.name := by
  obtain ⟨b, off, e, hlt, hc⟩ := h.addr (by have := (List.getElem?_eq_some_iff.1 hx).1; omega)
  obtain ⟨us, u1, u2, ve, vp, vl, vd, vc, vf, u3, z1, z2, z3, _⟩ := hc i r hx
  exact z3
theorem broken_nil {l : List Rc} {on ch : List Bool} (h1 : on.length = l.length) (h2 : ch.length = l.length) : ∀ (ds : List Dm) (k : Nat), ((Q.brokenFrom l on ch k ds).length == 0) = ds.all (fun d => Q.holds l ch d)
  | [], _ => rfl
  | d :: ds, k => by
    rw [Q.brokenFrom, List.length_append, List.all_cons, ← broken_nil h1 h2 ds (k + 1)]
    cases hh : Q.holds l ch d <;> simp [h1, h2]
set_option maxHeartbeats 4000000 in
set_option maxRecDepth 100000 in
theorem valid_any (ad : Addr) (a b o da : Option Addr) (c e oc dc : Nat) (l : List Rc) (on ch : List Bool) (ds : List Dm) (w : World) (hR : RIn w a b l ch) (hO : Bools w o on) (hD : Sl RDm 6 w da ds) (hE : ErrR w ad) :
    Calls Tryz.prog 38 #[.slice a l.length c, .slice o on.length oc, .slice b ch.length e, .slice da ds.length dc] w fun e w' => e = .returned (.bool (Q.valid l on ch ds)) ∧ Below w.heap.size w w' := by
  have hl1 := hD.len
  have hl3 := hR.recs.len
  have hl4 := hR.bools.len
  have hl5 := hO.len
  have HD := Lib.hid hD
  have HR := Lib.hid hR
  have HE := Lib.hid hE
  have HO := Lib.hid hO
  clear hD hR hE hO
  generalize hq : Q.valid l on ch ds = q
  have HQ := Lib.hid hq
  clear hq
  by_cases h1 : on.length = l.length
  · have n1 : ((on.length : Int) != (l.length : Int)) = false := by simp [h1]
    by_cases h2 : ch.length = l.length
    · have n2 : ((ch.length : Int) != (l.length : Int)) = false := by simp [h2]
      have HL1 := Lib.hid h1
      have HL2 := Lib.hid h2
      clear h1 h2
      have hmm := @run_makeMap Tryz.prog
      go_enter Tryz.func38, Tryz.ntmps38
      go_wp2
      clear hmm
      go_loopw [10, 11, 27] (fun _ _ i wr => ∃ (k : Nat) (D : DataW Unit), k ≤ l.length ∧ i = .int .i64 k ∧ OwnM wr w.heap.size k D ∧ Counts l ch k D ∧ (∀ j, j < k → Q.okAt l on ch j = true) ∧ Below w.heap.size w wr) (fun _ _ i _ => l.length - (intOf i).toNat)
      case atStart => exact ⟨0, .map [], Nat.zero_le _, rfl, World.ownsMap_made _ _ _ _, fun nm => rfl, (fun j hj => by omega), (Below.refl _ _).alloc (Nat.le_refl _) _⟩
      case round =>
        obtain ⟨k, D, hk, rfl, hM, hCn, hok, hbr⟩ := hrel
        have HM := Lib.hid hM
        have HCn := Lib.hid hCn
        have HOK := Lib.hid hok
        have HB := Lib.hid hbr
        clear hM hCn hok hbr
        by_cases hlt : k < l.length
        · have hRr := HR.out
          obtain ⟨r, hx⟩ : ∃ x, l[k]? = some x := ⟨l[k], by simp [hlt]⟩
          have hsz := SzName hRr.recs hx
          obtain ⟨bb, off, pa, la, pc, lc, da', dc', ca, cc, fa, fc, rfl, hbl0, ⟨q0, q1, q2, q3, q4, q5, q6, q7, q8, q9, q10, q11, q12⟩, hat, hdeps, hcons, _⟩ := hRr.recs.cellsRc hx
          have hbl : bb < wr.heap.size := Nat.lt_of_lt_of_le hbl0 HB.out.size
          have t0 := ((bcell HB.out).1 bb (off + k * 13) hbl0).trans q0
          have t1 := ((bcell HB.out).1 bb (off + k * 13 + 1) hbl0).trans q1
          have t2 := ((bcell HB.out).1 bb (off + k * 13 + 2) hbl0).trans q2
          have t3 := ((bcell HB.out).1 bb (off + k * 13 + 3) hbl0).trans q3
          have t4 := ((bcell HB.out).1 bb (off + k * 13 + 4) hbl0).trans q4
          have t5 := ((bcell HB.out).1 bb (off + k * 13 + 5) hbl0).trans q5
          have t6 := ((bcell HB.out).1 bb (off + k * 13 + 6) hbl0).trans q6
          have t7 := ((bcell HB.out).1 bb (off + k * 13 + 7) hbl0).trans q7
          have t8 := ((bcell HB.out).1 bb (off + k * 13 + 8) hbl0).trans q8
          have t9 := ((bcell HB.out).1 bb (off + k * 13 + 9) hbl0).trans q9
          have t10 := ((bcell HB.out).1 bb (off + k * 13 + 10) hbl0).trans q10
          have t11 := ((bcell HB.out).1 bb (off + k * 13 + 11) hbl0).trans q11
          have t12 := ((bcell HB.out).1 bb (off + k * 13 + 12) hbl0).trans q12
          clear q0 q1 q2 q3 q4 q5 q6 q7 q8 q9 q10 q11 q12
          have hlc : k < ch.length := by have := HL2.out; omega
          have hlo : k < on.length := by have := HL1.out; omega
          obtain ⟨y, hy⟩ : ∃ y, ch[k]? = some y := ⟨ch[k], by simp [hlc]⟩
          obtain ⟨v, hv⟩ : ∃ y, on[k]? = some y := ⟨on[k], by simp [hlo]⟩
          obtain ⟨b2, off2, rfl, hbl20, hcb⟩ := hRr.bools.addr (by omega)
          have hbl2 : b2 < wr.heap.size := Nat.lt_of_lt_of_le hbl20 HB.out.size
          have hcy := ((bcell HB.out).1 b2 (off2 + k) hbl20).trans (hcb k y hy)
          obtain ⟨b3, off3, rfl, hbl3, _⟩ := HO.out.addr (by omega)
          have HX := Lib.hid hx
          have HY := Lib.hid hy
          have HV := Lib.hid hv
          have HDe := Lib.hid hdeps
          have HCo := Lib.hid hcons
          have HK := Lib.hid (keyN hsz)
          clear hx hy hv hat hcb hRr hdeps hcons hsz
          cases y
          · go_wp2
            go_roundw
            case rel => exact ⟨k + 1, D, by omega, by go_num, (HM.out.below ((Below.refl _ _).alloc (Nat.le_refl _) _)).le (by omega), HCn.out.skip HY.out, (fun j hj => by rcases Nat.lt_or_ge j k with h' | h'; exact HOK.out j h'; rw [show j = k by omega]; exact okAt_off HX.out HY.out), HB.out.alloc HB.out.size _⟩
            case measure => simp [intOf]; omega
          · obtain ⟨n, hn⟩ : ∃ n, n = cnt l ch k r.name.toList := ⟨_, rfl⟩
            have hcb9 : n ≤ k := hn ▸ cnt_le l ch k r.name.toList
            have HN := Lib.hid hn
            clear hn
            rcases Nat.eq_zero_or_pos n with hn0 | hn0
            · have HN0 := Lib.hid hn0
              clear hn0
              have HMf := Lib.hid (fun ob => HM.out.below ((Below.refl wr.heap.size wr).alloc (Nat.le_refl _) ob))
              have hwB : w.heap.size < wr.heap.size := HM.out.lt
              go_wp2_with (first
                | (at_lookup; refine wpList_lookup_own_int _ rfl _ _ 130 rfl 9 3 .i64 keyedS Tryz.underlying130 Tryz.underlying3 (zeroInt _) w.heap.size k D rfl (HMf.out _) _ _ rfl HK.out ?_; intro cc0 hat0 _; obtain rfl : cc0 = (n : Int) := (cntC HCn.out hat0).trans (by rw [HN.out]); clear hat0)
                | (at_mapUpdate; refine wpList_mapUpdate_own _ rfl _ _ _ 130 rfl 9 3 keyedS Tryz.underlying130 _ w.heap.size k D rfl (HMf.out _) (by unfold maxLen; omega) _ _ _ rfl rfl HK.out _ [] (plainElem_int Tryz.underlying3 (WalkArith.wf_i64 (by omega))) ?_; intro w1 hown1 hgrow1; have hbw1 : Below w.heap.size w w1 := (HB.out.alloc HB.out.size _).grown hgrow1 (HB.out.alloc HB.out.size _).size (fun q hq => by cases hq; exact Nat.le_refl _); have s0 : w1.cell? ⟨wr.heap.size, 0, none⟩ = some (.string r.chan) := hgrow1.cell (cell_new rfl rfl) (by simp; omega); have s1 : w1.cell? ⟨wr.heap.size, 1, none⟩ = some (.string r.file) := hgrow1.cell (cell_new rfl rfl) (by simp; omega); have s2 : w1.cell? ⟨wr.heap.size, 2, none⟩ = some (.string r.name) := hgrow1.cell (cell_new rfl rfl) (by simp; omega); have s3 : w1.cell? ⟨wr.heap.size, 3, none⟩ = some (.string r.text) := hgrow1.cell (cell_new rfl rfl) (by simp; omega); have s4 : w1.cell? ⟨wr.heap.size, 4, none⟩ = some (.int .i64 r.ver.ep) := hgrow1.cell (cell_new rfl rfl) (by simp; omega); have s5 : w1.cell? ⟨wr.heap.size, 5, none⟩ = some (.slice pa r.ver.parts.length pc) := hgrow1.cell (cell_new rfl rfl) (by simp; omega); have s6 : w1.cell? ⟨wr.heap.size, 6, none⟩ = some (.slice la r.ver.loc.length lc) := hgrow1.cell (cell_new rfl rfl) (by simp; omega); have s7 : w1.cell? ⟨wr.heap.size, 7, none⟩ = some (.string r.build) := hgrow1.cell (cell_new rfl rfl) (by simp; omega); have s8 : w1.cell? ⟨wr.heap.size, 8, none⟩ = some (.int .i64 r.num) := hgrow1.cell (cell_new rfl rfl) (by simp; omega); have s9 : w1.cell? ⟨wr.heap.size, 9, none⟩ = some (.int .i64 r.time) := hgrow1.cell (cell_new rfl rfl) (by simp; omega); have s10 : w1.cell? ⟨wr.heap.size, 10, none⟩ = some (.slice da' r.deps.length dc') := hgrow1.cell (cell_new rfl rfl) (by simp; omega); have s11 : w1.cell? ⟨wr.heap.size, 11, none⟩ = some (.slice ca r.cons.length cc) := hgrow1.cell (cell_new rfl rfl) (by simp; omega); have s12 : w1.cell? ⟨wr.heap.size, 12, none⟩ = some (.slice fa r.feats.length fc) := hgrow1.cell (cell_new rfl rfl) (by simp; omega); obtain ⟨b4, off4, e4, hbl4, hcc4⟩ := (HO.out.below hbw1).addr (by omega); cases e4; have hov := hcc4 k v HV.out; obtain ⟨c2, hrun2, hat2, _⟩ := hown1.lookup_int keyedS Tryz.underlying130 Tryz.underlying3 (zeroInt _) HK.out; have hc2 : c2 = (n : Int) + 1 := (cntC2 (by have := Counts.put HM.out HCn.out HY.out HX.out; rw [← HN.out] at this; exact this) HY.out HX.out hat2).trans (by rw [HN.out]); have hle2 : c2 ≤ 1 := (by have := HN0.out; omega); clear hat2 hc2; have HM1 := Lib.hid hown1; have HW1 := Lib.hid hbw1; have HCn1 := Lib.hid (by have := Counts.put HM.out HCn.out HY.out HX.out; rw [← HN.out] at this; exact this : Counts l ch (k + 1) (D.put (.string r.name.toList) (.lit (.int .i64 ((n : Int) + 1))))); clear hown1 hgrow1 hbw1 hcc4)
                | (go_at_call 67; (with_reducible refine (fits_any r pa la da' ca fa pc lc dc' cc fc ad _ _ c e l ch _ (HDe.out.below stays_RSp HW1.out) (HCo.out.below stays_RSp HW1.out) (HR.out.below HW1.out) (HE.out.below HW1.out)).mono ?_); rintro e w3 ⟨rfl, hb3⟩; have HB3 := Lib.hid hb3; clear hb3)
                | fail)
              · have hfit : Q.fits l ch r = false := by
                  rcases (by assumption : 1 < c2 ∨ (!Q.fits l ch r) = true) with h | h
                  · omega
                  · simpa using h
                go_ret
                exact ⟨ret_bool (by rw [← HQ.out, valid_off hlt (by rw [okAt_on HX.out HY.out HV.out, hfit]; simp)]), fin HW1.out HB3.out⟩
              · have hfit : Q.fits l ch r = true := by
                  have h := (by assumption : c2 ≤ 1 ∧ (!Q.fits l ch r) = false)
                  simpa using h.2
                have hvt : v = true := by assumption
                have hcz : cnt l ch k r.name.toList = 0 := by rw [← HN.out]; exact HN0.out
                go_roundw
                case rel => exact ⟨k + 1, _, by omega, by go_num, OwnM.below HM1.out HB3.out, HCn1.out, (fun j hj => by rcases Nat.lt_or_ge j k with h' | h'; exact HOK.out j h'; rw [show j = k by omega, okAt_on HX.out HY.out HV.out, hfit, hvt, hcz]; rfl), fin HW1.out HB3.out⟩
                case measure => simp [intOf]; omega
              · have hvf : v = false := by have h := (by assumption : ¬v = true); simpa using h
                go_ret
                exact ⟨ret_bool (by rw [← HQ.out, valid_off hlt (by rw [okAt_on HX.out HY.out HV.out, hvf]; rfl)]), HW1.out⟩
            · have HN0 := Lib.hid hn0
              clear hn0
              have HMf := Lib.hid (fun ob => HM.out.below ((Below.refl wr.heap.size wr).alloc (Nat.le_refl _) ob))
              have hwB : w.heap.size < wr.heap.size := HM.out.lt
              go_wp2_with (first
                | (at_lookup; refine wpList_lookup_own_int _ rfl _ _ 130 rfl 9 3 .i64 keyedS Tryz.underlying130 Tryz.underlying3 (zeroInt _) w.heap.size k D rfl (HMf.out _) _ _ rfl HK.out ?_; intro cc0 hat0 _; obtain rfl : cc0 = (n : Int) := (cntC HCn.out hat0).trans (by rw [HN.out]); clear hat0)
                | (at_mapUpdate; refine wpList_mapUpdate_own _ rfl _ _ _ 130 rfl 9 3 keyedS Tryz.underlying130 _ w.heap.size k D rfl (HMf.out _) (by unfold maxLen; omega) _ _ _ rfl rfl HK.out _ [] (plainElem_int Tryz.underlying3 (WalkArith.wf_i64 (by omega))) ?_; intro w1 hown1 hgrow1; have hbw1 : Below w.heap.size w w1 := (HB.out.alloc HB.out.size _).grown hgrow1 (HB.out.alloc HB.out.size _).size (fun q hq => by cases hq; exact Nat.le_refl _); have s0 : w1.cell? ⟨wr.heap.size, 0, none⟩ = some (.string r.chan) := hgrow1.cell (cell_new rfl rfl) (by simp; omega); have s1 : w1.cell? ⟨wr.heap.size, 1, none⟩ = some (.string r.file) := hgrow1.cell (cell_new rfl rfl) (by simp; omega); have s2 : w1.cell? ⟨wr.heap.size, 2, none⟩ = some (.string r.name) := hgrow1.cell (cell_new rfl rfl) (by simp; omega); have s3 : w1.cell? ⟨wr.heap.size, 3, none⟩ = some (.string r.text) := hgrow1.cell (cell_new rfl rfl) (by simp; omega); have s4 : w1.cell? ⟨wr.heap.size, 4, none⟩ = some (.int .i64 r.ver.ep) := hgrow1.cell (cell_new rfl rfl) (by simp; omega); have s5 : w1.cell? ⟨wr.heap.size, 5, none⟩ = some (.slice pa r.ver.parts.length pc) := hgrow1.cell (cell_new rfl rfl) (by simp; omega); have s6 : w1.cell? ⟨wr.heap.size, 6, none⟩ = some (.slice la r.ver.loc.length lc) := hgrow1.cell (cell_new rfl rfl) (by simp; omega); have s7 : w1.cell? ⟨wr.heap.size, 7, none⟩ = some (.string r.build) := hgrow1.cell (cell_new rfl rfl) (by simp; omega); have s8 : w1.cell? ⟨wr.heap.size, 8, none⟩ = some (.int .i64 r.num) := hgrow1.cell (cell_new rfl rfl) (by simp; omega); have s9 : w1.cell? ⟨wr.heap.size, 9, none⟩ = some (.int .i64 r.time) := hgrow1.cell (cell_new rfl rfl) (by simp; omega); have s10 : w1.cell? ⟨wr.heap.size, 10, none⟩ = some (.slice da' r.deps.length dc') := hgrow1.cell (cell_new rfl rfl) (by simp; omega); have s11 : w1.cell? ⟨wr.heap.size, 11, none⟩ = some (.slice ca r.cons.length cc) := hgrow1.cell (cell_new rfl rfl) (by simp; omega); have s12 : w1.cell? ⟨wr.heap.size, 12, none⟩ = some (.slice fa r.feats.length fc) := hgrow1.cell (cell_new rfl rfl) (by simp; omega); obtain ⟨b4, off4, e4, hbl4, hcc4⟩ := (HO.out.below hbw1).addr (by omega); cases e4; have hov := hcc4 k v HV.out; obtain ⟨c2, hrun2, hat2, _⟩ := hown1.lookup_int keyedS Tryz.underlying130 Tryz.underlying3 (zeroInt _) HK.out; have hc2 : c2 = (n : Int) + 1 := (cntC2 (by have := Counts.put HM.out HCn.out HY.out HX.out; rw [← HN.out] at this; exact this) HY.out HX.out hat2).trans (by rw [HN.out]); have hgt2 : 1 < c2 := (by have := HN0.out; omega); clear hat2 hc2; have HM1 := Lib.hid hown1; have HW1 := Lib.hid hbw1; have HCn1 := Lib.hid (by have := Counts.put HM.out HCn.out HY.out HX.out; rw [← HN.out] at this; exact this : Counts l ch (k + 1) (D.put (.string r.name.toList) (.lit (.int .i64 ((n : Int) + 1))))); clear hown1 hgrow1 hbw1 hcc4)
                | (go_at_call 67; (with_reducible refine (fits_any r pa la da' ca fa pc lc dc' cc fc ad _ _ c e l ch _ (HDe.out.below stays_RSp HW1.out) (HCo.out.below stays_RSp HW1.out) (HR.out.below HW1.out) (HE.out.below HW1.out)).mono ?_); rintro e w3 ⟨rfl, hb3⟩; have HB3 := Lib.hid hb3; clear hb3)
                | fail)
              all_goals
                go_ret
                exact ⟨ret_bool (by rw [← HQ.out, valid_off hlt (by rw [okAt_on HX.out HY.out HV.out, decide_eq_false (by rw [← HN.out]; exact Nat.pos_iff_ne_zero.1 HN0.out)]; simp)]), HW1.out⟩
        · go_wp2_with fail
          refine (broken_ok ad a b o da c e oc dc l on ch ds _ HL1.out HL2.out (HR.out.below HB.out) (HD.out.below stays_RDm HB.out) (HE.out.below HB.out)).mono ?_
          rintro e w3 ⟨pa3, pc3, rfl, _, hb3⟩
          have hbl9 := broken_len l on ch ds 0
          have HB3 := Lib.hid hb3
          clear hb3
          go_wp2
          go_ret
          refine ⟨ret_bool ?_, fin HB.out HB3.out⟩
          rw [← HQ.out]
          unfold Q.valid
          rw [decide_eq_true HL1.out, decide_eq_true HL2.out, all_range_all (fun j hj => HOK.out j (by omega)), ← broken_nil HL1.out HL2.out ds 0]
          simp
          rw [Bool.eq_iff_iff]; simp
    · have n2 : ((ch.length : Int) != (l.length : Int)) = true := by rw [bne_iff_ne]; omega
      go_enter Tryz.func38, Tryz.ntmps38
      go_wp2
      go_ret
      exact ⟨ret_bool (by rw [← HQ.out]; unfold Q.valid; simp [h2]), Below.refl _ _⟩
  · have n1 : ((on.length : Int) != (l.length : Int)) = true := by rw [bne_iff_ne]; omega
    go_enter Tryz.func38, Tryz.ntmps38
    go_wp2
    go_ret
    exact ⟨ret_bool (by rw [← HQ.out]; unfold Q.valid; simp [h1]), Below.refl _ _⟩
end Go.Proofs.YtnmcajinaigcjaaGreatDoor

/- The contract of the document's Reach. -/
import Derived.Test.YtpminhafljlldaaDoorDKeep
namespace Go.Proofs.YtpminhafljlldaaDoor
open Go.RowKit
open Q (It Ver Tm Sp Rc Dm)

theorem reachAt_off {l : List Rc} {on : List Bool} {roots : List Sp} {X : List Bool} {i : Nat} (h : on[i]? = some false) : Q.reachAt l on roots X i = X := by unfold Q.reachAt; rw [h]; split <;> simp_all
theorem reachAt_on {l : List Rc} {on : List Bool} {roots : List Sp} {X : List Bool} {i : Nat} {r : Rc} {x : Bool} (hr : l[i]? = some r) (h : on[i]? = some true) (hx : X[i]? = some x) :
    Q.reachAt l on roots X i = X.set i (x || (roots.any fun s => Q.mt s r) || Q.dneeded l X r) := by unfold Q.reachAt; rw [hr, h, hx]
def needUpto (l : List Rc) (X : List Bool) (r : Rc) (n : Nat) : Bool := (List.range n).any fun k => (X[k]? == some true) && (match l[k]? with | some q => q.deps.any fun s => Q.mt s r | none => false)
theorem needUpto_all (l : List Rc) (X : List Bool) (r : Rc) : needUpto l X r l.length = Q.dneeded l X r := rfl
theorem needUpto_succ {l : List Rc} {X : List Bool} {r q : Rc} {k : Nat} {z : Bool} (hq : l[k]? = some q) (hz : X[k]? = some z) : needUpto l X r (k + 1) = (needUpto l X r k || (z && q.deps.any fun s => Q.mt s r)) := by
  unfold needUpto
  rw [List.range_succ, List.any_append]
  simp [hq, hz]
theorem anyB_snoc {α : Type} {p : α → Bool} {l : List α} {k : Nat} {x : α} (h : l[k]? = some x) : (l.take (k + 1)).any p = ((l.take k).any p || p x) := by
  rw [List.take_add_one, h, List.any_append]; simp
theorem Sl.rcAt2 {w : World} {a : Option Addr} {xs : List Rc} (h : Sl RRc 13 w a xs) {i : Nat} {r : Rc} (hx : xs[i]? = some r) :
    ∃ bb off pa la pc lc da dc ca cc fa fc, a = some ⟨bb, off, none⟩ ∧ bb < w.heap.size ∧ (∀ w', Below w.heap.size w w' → w'.cell? ⟨bb, off + i * 13, none⟩ = some (.string r.chan) ∧ w'.cell? ⟨bb, off + i * 13 + 1, none⟩ = some (.string r.file) ∧ w'.cell? ⟨bb, off + i * 13 + 2, none⟩ = some (.string r.name) ∧ w'.cell? ⟨bb, off + i * 13 + 3, none⟩ = some (.string r.text) ∧ w'.cell? ⟨bb, off + i * 13 + 4, none⟩ = some (.int .i64 r.ver.ep) ∧ w'.cell? ⟨bb, off + i * 13 + 5, none⟩ = some (.slice pa r.ver.parts.length pc) ∧ w'.cell? ⟨bb, off + i * 13 + 6, none⟩ = some (.slice la r.ver.loc.length lc) ∧ w'.cell? ⟨bb, off + i * 13 + 7, none⟩ = some (.string r.build) ∧ w'.cell? ⟨bb, off + i * 13 + 8, none⟩ = some (.int .i64 r.num) ∧ w'.cell? ⟨bb, off + i * 13 + 9, none⟩ = some (.int .i64 r.time) ∧ w'.cell? ⟨bb, off + i * 13 + 10, none⟩ = some (.slice da r.deps.length dc) ∧ w'.cell? ⟨bb, off + i * 13 + 11, none⟩ = some (.slice ca r.cons.length cc) ∧ w'.cell? ⟨bb, off + i * 13 + 12, none⟩ = some (.slice fa r.feats.length fc)) ∧ RcAll w r pa la da ca fa pc lc dc cc fc := by
  obtain ⟨bb, off, pa, la, pc, lc, da, dc, ca, cc, fa, fc, e, hlt, ⟨t0, t1, t2, t3, t4, t5, t6, t7, t8, t9, t10, t11, t12⟩, hat⟩ := h.rcAll hx
  refine ⟨bb, off, pa, la, pc, lc, da, dc, ca, cc, fa, fc, e, hlt, fun w' hb => ?_, hat⟩
  exact ⟨(hb.cell (p := ⟨bb, off + i * 13, none⟩) hlt).trans t0, (hb.cell (p := ⟨bb, off + i * 13 + 1, none⟩) hlt).trans t1, (hb.cell (p := ⟨bb, off + i * 13 + 2, none⟩) hlt).trans t2, (hb.cell (p := ⟨bb, off + i * 13 + 3, none⟩) hlt).trans t3, (hb.cell (p := ⟨bb, off + i * 13 + 4, none⟩) hlt).trans t4, (hb.cell (p := ⟨bb, off + i * 13 + 5, none⟩) hlt).trans t5, (hb.cell (p := ⟨bb, off + i * 13 + 6, none⟩) hlt).trans t6, (hb.cell (p := ⟨bb, off + i * 13 + 7, none⟩) hlt).trans t7, (hb.cell (p := ⟨bb, off + i * 13 + 8, none⟩) hlt).trans t8, (hb.cell (p := ⟨bb, off + i * 13 + 9, none⟩) hlt).trans t9, (hb.cell (p := ⟨bb, off + i * 13 + 10, none⟩) hlt).trans t10, (hb.cell (p := ⟨bb, off + i * 13 + 11, none⟩) hlt).trans t11, (hb.cell (p := ⟨bb, off + i * 13 + 12, none⟩) hlt).trans t12⟩
theorem Sl.spAt2 {w : World} {a : Option Addr} {xs : List Sp} (h : Sl RSp 5 w a xs) {i : Nat} {s : Sp} (hx : xs[i]? = some s) :
    ∃ bb off ra rc, a = some ⟨bb, off, none⟩ ∧ bb < w.heap.size ∧ (∀ w', Below w.heap.size w w' → w'.cell? ⟨bb, off + i * 5, none⟩ = some (.string s.chan) ∧ w'.cell? ⟨bb, off + i * 5 + 1, none⟩ = some (.string s.name) ∧ w'.cell? ⟨bb, off + i * 5 + 2, none⟩ = some (.slice ra s.rows.length rc) ∧ w'.cell? ⟨bb, off + i * 5 + 3, none⟩ = some (.string s.build) ∧ w'.cell? ⟨bb, off + i * 5 + 4, none⟩ = some (.int .i64 s.num)) ∧ SpAt w s ra rc := by
  obtain ⟨bb, off, ra, rc, e, hlt, ⟨t0, t1, t2, t3, t4⟩, hat⟩ := h.cellsSp hx
  refine ⟨bb, off, ra, rc, e, hlt, fun w' hb => ?_, hat⟩
  exact ⟨(hb.cell (p := ⟨bb, off + i * 5, none⟩) hlt).trans t0, (hb.cell (p := ⟨bb, off + i * 5 + 1, none⟩) hlt).trans t1, (hb.cell (p := ⟨bb, off + i * 5 + 2, none⟩) hlt).trans t2, (hb.cell (p := ⟨bb, off + i * 5 + 3, none⟩) hlt).trans t3, (hb.cell (p := ⟨bb, off + i * 5 + 4, none⟩) hlt).trans t4⟩
theorem SzBuild {w : World} {a : Option Addr} {xs : List Rc} (h : Sl RRc 13 w a xs) {i : Nat} {r : Rc} (hx : xs[i]? = some r) : SzS r.build := by
  obtain ⟨b, off, e, hlt, hc⟩ := h.addr (by have := (List.getElem?_eq_some_iff.1 hx).1; omega)
  obtain ⟨us, u1, u2, ve, vp, vl, vd, vc, vf, u3, z1, z2, z3, z4, z5, _⟩ := hc i r hx
  exact z5
/-- a record's box -/
def RcIn (w : World) (B : Nat) (vs : Array Value) : Prop := w.heap[B]? = some (.cells vs 69 (0, 0))
theorem RcIn.lt {w : World} {B : Nat} {vs : Array Value} (h : RcIn w B vs) : B < w.heap.size := (Array.getElem?_eq_some_iff.1 h).1
theorem RcIn.below {w w' : World} {B : Nat} {vs : Array Value} (h : RcIn w B vs) (hb : Below w.heap.size w w') : RcIn w' B vs := (hb.block B h.lt).trans h
theorem RcIn.set {w : World} {B : Nat} {vs : Array Value} (h : RcIn w B vs) {p : Addr} (hne : B ≠ p.block) (v : Value) : RcIn (w.setCell p v) B vs := (Below.heap_setCell _ _ _ _ hne).trans h
theorem RcIn.cell {w : World} {B : Nat} {vs : Array Value} (h : RcIn w B vs) (i : Nat) : w.cell? ⟨B, i, none⟩ = vs[i]? := cell_of_cells h i
/-- the row of bools that Reach makes, set at one place -/
def NowAt (w : World) (n : Nat) (g : Nat) (X : List Bool) : Prop := OwnB w g (some ⟨g, 0, none⟩) n X
theorem NowAt.below {w w' : World} {n g : Nat} {X : List Bool} (h : NowAt w n g X) (hb : Below w.heap.size w w') : NowAt w' n g X := OwnB.below h hb
theorem NowAt.cell {w : World} {n g i : Nat} {X : List Bool} {x : Bool} (h : NowAt w n g X) (hx : X[i]? = some x) : w.cell? ⟨g, i, none⟩ = some (.bool x) ∧ w.frozen? ⟨g, i, none⟩ = false := ⟨OwnB.cell h hx, OwnB.frozen h i⟩
theorem NowAt.store {w : World} {n g i : Nat} {X : List Bool} {u : Bool} (h : NowAt w n g (X.set i u)) (v : Bool) : NowAt (w.setCell ⟨g, i, none⟩ (.bool v)) n g (X.set i v) := by
  have := OwnB.stored h i v
  rw [List.set_set] at this
  exact this
theorem set_at {X : List Bool} {i : Nat} {u : Bool} (h : i < X.length) : (X.set i u)[i]? = some u := by rw [List.getElem?_set]; simp [h]
theorem set_self {X : List Bool} {i : Nat} {x : Bool} (h : X[i]? = some x) : X.set i x = X := by
  apply List.ext_getElem?
  intro j
  rw [List.getElem?_set]
  split
  · rename_i e; subst e
    split
    · exact h.symm
    · rename_i hl; rw [List.getElem?_eq_none (by omega)]
  · rfl
theorem or_yes {v z D : Bool} (h : z = true ∨ v = true) : (v || D) = (v || (z && D)) := by rcases h with rfl | rfl <;> simp
theorem or_no {v z D : Bool} (h : z = false) : v = (v || (z && D)) := by subst h; simp

set_option maxHeartbeats 8000000 in
set_option maxRecDepth 100000 in
theorem dreach_any (a b ro : Option Addr) (c e rc0 : Nat) (l : List Rc) (on : List Bool) (roots : List Sp) (w : World) (hR : RIn w a b l on) (hRo : Sl RSp 5 w ro roots) (hl : on.length = l.length) (h60 : l.length ≤ 1000) :
    Calls Tryd.prog 29 #[.slice a l.length c, .slice b on.length e, .slice ro roots.length rc0] w (DBools w (Q.reachIter l on roots (l.length + 1))) := by
  have HR := Lib.hid hR
  have HRO := Lib.hid hRo
  have HL := Lib.hid hl
  have hl2 : on.length ≤ 1000 := by omega
  have hl3 := hRo.len
  clear hR hRo hl
  go_enter Tryd.func29, Tryd.ntmps29
  go_wp2_with (at_make; refine wpList_make_BoolsW rfl (.tmp 18) (.tmp 18) rfl w.heap.size l.length rfl rfl (by omega) (Nat.le_refl _) ?_; intro w5 hown5 hb5 hlt5; have HO5 := Lib.hid hown5; have HB5 := Lib.hid hb5; clear hown5 hb5)
  go_loopw [8, 9, 10, 12, 13, 14, 16] (fun s8 _ _ _ _ _ _ wr => ∃ n : Nat, n ≤ l.length + 1 ∧ s8 = .int .i64 n ∧ NowAt wr l.length w.heap.size (Q.reachIter l on roots n) ∧ Below w.heap.size w wr ∧ w.heap.size < wr.heap.size) (fun s8 _ _ _ _ _ _ _ => l.length + 1 - (intOf s8).toNat)
  case atStart => exact ⟨0, by omega, rfl, HO5.out, HB5.out, hlt5⟩
  case round =>
    obtain ⟨n, hn, rfl, hown, hbr, hzr⟩ := hrel
    have HO := Lib.hid hown
    have HB := Lib.hid hbr
    have HLN := Lib.hid (Q.reachIter_len l on roots n)
    obtain ⟨X0, hX0⟩ : ∃ X, X = Q.reachIter l on roots n := ⟨_, rfl⟩
    have HX0 := Lib.hid hX0
    rw [← hX0] at HO HLN
    clear hown hbr hX0 hlt5
    by_cases hlt : n < l.length + 1
    case neg =>
      have hne : n = l.length + 1 := by omega
      have hgt : (l.length : Int) < (n : Int) := by omega
      have HNE := Lib.hid hne
      clear hne
      go_wp2
      go_ret
      refine ⟨some ⟨w.heap.size, 0, none⟩, l.length, ?_, ?_, HB.out⟩
      · rw [Q.reachIter_len]; rfl
      · have hh := OwnB.bools HO.out (by rw [HLN.out]; omega)
        rw [HX0.out, HNE.out] at hh
        exact hh
    have hle : (n : Int) ≤ (l.length : Int) := by omega
    go_wp2
    go_loopw [9, 10, 12, 13, 14, 16, 28] (fun _ _ _ _ _ _ s28 wr => ∃ i : Nat, i ≤ l.length ∧ s28 = .int .i64 i ∧ NowAt wr l.length w.heap.size (Q.reachUpto l on roots X0 i) ∧ Below w.heap.size w wr ∧ w.heap.size < wr.heap.size) (fun _ _ _ _ _ _ s28 _ => l.length - (intOf s28).toNat)
    case atStart => exact ⟨0, by omega, rfl, HO.out, HB.out, hzr⟩
    case round =>
      obtain ⟨i, hi, rfl, hown, hbr, hzr⟩ := hrel
      have HO2 := Lib.hid hown
      have HB2 := Lib.hid hbr
      have hlx : (Q.reachUpto l on roots X0 i).length = l.length := by rw [Q.reachUpto_len]; exact HLN.out
      obtain ⟨X, hX⟩ : ∃ X, X = Q.reachUpto l on roots X0 i := ⟨_, rfl⟩
      rw [← hX] at HO2 hlx
      have HX := Lib.hid hX
      have HLX := Lib.hid hlx
      clear hown hbr hX hlx
      by_cases hil : i < l.length
      case neg =>
        have hie : i = l.length := by omega
        have HST := Lib.hid (show X = Q.reachIter l on roots (n + 1) by rw [HX.out, hie, HX0.out]; rfl)
        clear hie
        go_wp2
        go_roundw
        case rel => exact ⟨n + 1, by omega, by go_num, HST.out ▸ HO2.out, HB2.out, hzr⟩
        case measure => simp [intOf]; omega
      have hio : i < on.length := by have := HL.out; omega
      have hix : i < X.length := by have := HLX.out; omega
      obtain ⟨r, hx⟩ : ∃ x, l[i]? = some x := ⟨l[i], by simp [hil]⟩
      obtain ⟨y, hy⟩ : ∃ x, on[i]? = some x := ⟨on[i], by simp [hio]⟩
      obtain ⟨x, hxx⟩ : ∃ x, X[i]? = some x := ⟨X[i], by simp [hix]⟩
      obtain ⟨bb, off, pa, la, pc, lc, da, dc, ca, cc, fa, fc, rfl, hbl, hcells, hat⟩ := HR.out.recs.rcAt2 hx
      have HA := Lib.hid hat
      have HBU := Lib.hid (SzBuild HR.out.recs hx)
      obtain ⟨t0, t1, t2, t3, t4, t5, t6, t7, t8, t9, t10, t11, t12⟩ := hcells _ HB2.out
      obtain ⟨b2, o2, rfl, hbl2, hcb⟩ := (HR.out.bools.below HB2.out).addr (by omega)
      have hcy := hcb i y hy
      have HXI := Lib.hid hx
      have HXX := Lib.hid hxx
      have HY := Lib.hid hy
      clear hx hy hxx hcb hat hcells
      cases y
      · go_wp2
        go_roundw
        case rel => exact ⟨i + 1, by omega, by go_num, (by show NowAt _ _ _ (Q.reachAt l on roots (Q.reachUpto l on roots X0 i) i); rw [← HX.out, reachAt_off HY.out]; exact HO2.out.below (b1 _ _)), HB2.out.alloc (by omega) _, (by simp; omega)⟩
        case measure => simp [intOf]; omega
      obtain ⟨wo, rfl⟩ : ∃ wo : World, wo = wr := ⟨_, rfl⟩
      go_wp2
      generalize hW : wo.alloc _ = W
      have hbx : RcIn W wo.heap.size #[.string r.chan, .string r.file, .string r.name, .string r.text, .int .i64 r.ver.ep, .slice pa r.ver.parts.length pc, .slice la r.ver.loc.length lc, .string r.build, .int .i64 r.num, .int .i64 r.time, .slice da r.deps.length dc, .slice ca r.cons.length cc, .slice fa r.feats.length fc] := by subst hW; exact heap_alloc_new _ _
      have HBX := Lib.hid hbx
      have HOW := Lib.hid (show NowAt W l.length w.heap.size (X.set i (x || (roots.take 0).any fun s => Q.mt s r)) by subst hW; rw [show (x || (roots.take 0).any fun s => Q.mt s r) = x by simp, set_self HXX.out]; exact HO2.out.below (b1 _ _))
      have HBW := Lib.hid (show Below w.heap.size w W by subst hW; exact HB2.out.alloc (by omega) _)
      have hzB : w.heap.size < wo.heap.size := hzr
      clear hW hbx t0 t1 t2 t3 t4 t5 t6 t7 t8 t9 t10 t11 t12 hcy
      go_loopw [12, 40] (fun _ s40 wr => ∃ j : Nat, j ≤ roots.length ∧ s40 = .int .i64 j ∧ NowAt wr l.length w.heap.size (X.set i (x || (roots.take j).any fun s => Q.mt s r)) ∧ RcIn wr wo.heap.size #[.string r.chan, .string r.file, .string r.name, .string r.text, .int .i64 r.ver.ep, .slice pa r.ver.parts.length pc, .slice la r.ver.loc.length lc, .string r.build, .int .i64 r.num, .int .i64 r.time, .slice da r.deps.length dc, .slice ca r.cons.length cc, .slice fa r.feats.length fc] ∧ Below w.heap.size w wr) (fun _ s40 _ => roots.length - (intOf s40).toNat)
      case atStart => exact ⟨0, by omega, rfl, HOW.out, HBX.out, HBW.out⟩
      case round =>
        obtain ⟨j, hj, rfl, hown, hbx, hbr⟩ := hrel
        have HO3 := Lib.hid hown
        have HBX3 := Lib.hid hbx
        have HB3 := Lib.hid hbr
        have hz3 : wo.heap.size < wr.heap.size := hbx.lt
        have hzw : w.heap.size < wr.heap.size := by omega
        clear hown hbx hbr
        by_cases hjl : j < roots.length
        · obtain ⟨s, hs⟩ : ∃ x, roots[j]? = some x := ⟨roots[j], by simp [hjl]⟩
          obtain ⟨b4, o4, ra, rc, rfl, hbl4, hcs, hsp⟩ := HRO.out.spAt2 hs
          obtain ⟨s0, s1, s2, s3, s4⟩ := hcs _ HB3.out
          have HSN := Lib.hid (anyB_snoc (p := fun s => Q.mt s r) hs)
          have HSP := Lib.hid hsp
          clear hs hcs hsp
          generalize hv : (x || (roots.take j).any fun s => Q.mt s r) = v at HO3
          have HV := Lib.hid hv
          clear hv
          have hcur : (X.set i v)[i]? = some v := set_at hix
          obtain ⟨hcc, hff⟩ := HO3.out.cell hcur
          have c0 := HBX3.out.cell 0
          have c1 := HBX3.out.cell 1
          have c2 := HBX3.out.cell 2
          have c3 := HBX3.out.cell 3
          have c4 := HBX3.out.cell 4
          have c5 := HBX3.out.cell 5
          have c6 := HBX3.out.cell 6
          have c7 := HBX3.out.cell 7
          have c8 := HBX3.out.cell 8
          have c9 := HBX3.out.cell 9
          have c10 := HBX3.out.cell 10
          have c11 := HBX3.out.cell 11
          have c12 := HBX3.out.cell 12
          simp only [List.getElem?_toArray, List.getElem?_cons_zero, List.getElem?_cons_succ] at c0 c1 c2 c3 c4 c5 c6 c7 c8 c9 c10 c11 c12
          cases v
          · have hcn := cell_old hcc (Obj.cells #[.string s.chan, .string s.name, .slice ra s.rows.length rc, .string s.build, .int .i64 s.num] 35)
            have hfn := (HO3.out.below (b1 wr (Obj.cells #[.string s.chan, .string s.name, .slice ra s.rows.length rc, .string s.build, .int .i64 s.num] 35))).cell hcur
            go_wp2_with fail
            (with_reducible refine (dmatch_any s r ra pa la rc pc lc _ _ _ _ ((HSP.out.below HB3.out).below (b1 _ _)) ⟨((HA.out.ver.below HB3.out).below (b1 _ _)), HBU.out⟩).mono ?_)
            rintro e w7 ⟨rfl, hb⟩
            have hO7 := (HO3.out.below (b1 _ _)).below hb
            have HO7 := Lib.hid hO7
            have HBX7 := Lib.hid ((HBX3.out.below (b1 _ _)).below hb)
            have HB7 := Lib.hid (fin (HB3.out.alloc (by omega) _) hb)
            obtain ⟨hcc7, hff7⟩ := hO7.cell hcur
            have hz7 : w.heap.size < w7.heap.size := cell_lt hcc7
            generalize hmm : Q.mt s r = mm
            have HMM := Lib.hid hmm
            clear hb hO7 hmm hcn hfn hcc hff hcur c0 c1 c2 c3 c4 c5 c6 c7 c8 c9 c10 c11 c12
            go_wp2
            go_roundw
            case rel => exact ⟨j + 1, by omega, by go_num, (by rw [HSN.out, ← Bool.or_assoc, HV.out, HMM.out]; exact HO7.out.store _), HBX7.out.set (by simp; omega) _, HB7.out.setCell (Nat.le_refl _) _⟩
            case measure => simp [intOf]; omega
          · clear c0 c1 c2 c3 c4 c5 c6 c7 c8 c9 c10 c11 c12
            go_wp2
            go_roundw
            case rel => exact ⟨j + 1, by omega, by go_num, (by rw [HSN.out, ← Bool.or_assoc, HV.out]; exact (HO3.out.store true).below (b1 _ _)), (HBX3.out.set (by simp; omega) _).below (b1 _ _), (HB3.out.setCell (Nat.le_refl _) _).alloc (by simp; omega) _⟩
            case measure => simp [intOf]; omega
        · have hje : roots.take j = roots := List.take_of_length_le (by omega)
          rw [hje] at HO3
          clear hje
          go_wp2
          go_loopw [13, 14, 16, 59] (fun _ _ _ s59 wr => ∃ k : Nat, k ≤ l.length ∧ s59 = .int .i64 k ∧ NowAt wr l.length w.heap.size (X.set i (x || (roots.any fun s => Q.mt s r) || needUpto l X r k)) ∧ RcIn wr wo.heap.size #[.string r.chan, .string r.file, .string r.name, .string r.text, .int .i64 r.ver.ep, .slice pa r.ver.parts.length pc, .slice la r.ver.loc.length lc, .string r.build, .int .i64 r.num, .int .i64 r.time, .slice da r.deps.length dc, .slice ca r.cons.length cc, .slice fa r.feats.length fc] ∧ Below w.heap.size w wr) (fun _ _ _ s59 _ => l.length - (intOf s59).toNat)
          case atStart => exact ⟨0, by omega, rfl, (by rw [show needUpto l X r 0 = false from rfl, Bool.or_false]; exact HO3.out), HBX3.out, HB3.out⟩
          case round =>
            obtain ⟨k, hk, rfl, hown, hbx, hbr⟩ := hrel
            have HO4 := Lib.hid hown
            have HBX4 := Lib.hid hbx
            have HB4 := Lib.hid hbr
            have hz4 : wo.heap.size < wr.heap.size := hbx.lt
            have hzw : w.heap.size < wr.heap.size := by omega
            clear hown hbx hbr
            by_cases hkl : k < l.length
            · have hkx : k < X.length := by have := HLX.out; omega
              obtain ⟨q, hq⟩ : ∃ x, l[k]? = some x := ⟨l[k], by simp [hkl]⟩
              obtain ⟨z, hz⟩ : ∃ x, X[k]? = some x := ⟨X[k], by simp [hkx]⟩
              have HNU := Lib.hid (needUpto_succ (r := r) hq hz)
              obtain ⟨bb', off', pa2, la2, pc2, lc2, da2, dc2, ca2, cc2, fa2, fc2, e9, hbl9, hcells, hat2⟩ := HR.out.recs.rcAt2 hq
              cases e9
              obtain ⟨t0, t1, t2, t3, t4, t5, t6, t7, t8, t9, t10, t11, t12⟩ := hcells _ HB4.out
              have HA2 := Lib.hid hat2
              have hdl := hat2.deps.len
              generalize hv : (x || (roots.any fun s => Q.mt s r) || needUpto l X r k) = v at HO4
              have HV := Lib.hid hv
              have hcur : (X.set i v)[k]? = some (if i = k then v else z) := by
                rw [List.getElem?_set]; split
                · simp [*]
                · exact hz
              have hxz : i = k → x = z := fun e => by subst e; have := HXX.out; rw [this] at hz; cases hz; rfl
              have HXZ := Lib.hid hxz
              obtain ⟨zc, hzc⟩ : ∃ zc, zc = (if i = k then v else z) := ⟨_, rfl⟩
              rw [← hzc] at hcur
              have HZC := Lib.hid hzc
              have hcell := (HO4.out.cell hcur).1
              clear hq hz hat2 hcells hv hcur hxz hzc
              cases zc
              · have hvz : v = (v || (z && q.deps.any fun s => Q.mt s r)) := by
                  have h1 := HZC.out
                  by_cases e : i = k
                  · rw [if_pos e] at h1
                    have h2 := HXZ.out e
                    have h3 := HV.out
                    rw [← h1] at h3
                    refine or_no ?_
                    rw [← h2]
                    cases x
                    · rfl
                    · simp at h3
                  · rw [if_neg e] at h1; exact or_no h1.symm
                have HVZ := Lib.hid hvz
                clear hvz
                go_wp2
                go_roundw
                case rel => exact ⟨k + 1, by omega, by go_num, (by rw [HNU.out, ← Bool.or_assoc, HV.out, ← HVZ.out]; exact HO4.out.below (b1 _ _)), HBX4.out.below (b1 _ _), HB4.out.alloc (by omega) _⟩
                case measure => simp [intOf]; omega
              · have hvz : ∀ D, (v || D) = (v || (z && D)) := fun D => by
                  have h1 := HZC.out
                  by_cases e : i = k
                  · rw [if_pos e] at h1; exact or_yes (.inr h1.symm)
                  · rw [if_neg e] at h1; exact or_yes (.inl h1.symm)
                have HVZ := Lib.hid hvz
                clear hvz
                obtain ⟨wp, rfl⟩ : ∃ wo : World, wo = wr := ⟨_, rfl⟩
                go_wp2
                generalize hW : wp.alloc _ = W2
                have HOW2 := Lib.hid (show NowAt W2 l.length w.heap.size (X.set i (v || (q.deps.take 0).any fun s => Q.mt s r)) by subst hW; rw [show (v || (q.deps.take 0).any fun s => Q.mt s r) = v by simp]; exact HO4.out.below (b1 _ _))
                have HBX5 := Lib.hid (show RcIn W2 wo.heap.size #[.string r.chan, .string r.file, .string r.name, .string r.text, .int .i64 r.ver.ep, .slice pa r.ver.parts.length pc, .slice la r.ver.loc.length lc, .string r.build, .int .i64 r.num, .int .i64 r.time, .slice da r.deps.length dc, .slice ca r.cons.length cc, .slice fa r.feats.length fc] by subst hW; exact HBX4.out.below (b1 _ _))
                have HBW2 := Lib.hid (show Below w.heap.size w W2 by subst hW; exact HB4.out.alloc (by omega) _)
                clear hW t0 t1 t2 t3 t4 t5 t6 t7 t8 t9 t10 t11 t12 hcell
                go_loopw [16, 72] (fun _ s72 wr => ∃ m : Nat, m ≤ q.deps.length ∧ s72 = .int .i64 m ∧ NowAt wr l.length w.heap.size (X.set i (v || (q.deps.take m).any fun s => Q.mt s r)) ∧ RcIn wr wo.heap.size #[.string r.chan, .string r.file, .string r.name, .string r.text, .int .i64 r.ver.ep, .slice pa r.ver.parts.length pc, .slice la r.ver.loc.length lc, .string r.build, .int .i64 r.num, .int .i64 r.time, .slice da r.deps.length dc, .slice ca r.cons.length cc, .slice fa r.feats.length fc] ∧ Below w.heap.size w wr) (fun _ s72 _ => q.deps.length - (intOf s72).toNat)
                case atStart => exact ⟨0, by omega, rfl, HOW2.out, HBX5.out, HBW2.out⟩
                case round =>
                  obtain ⟨m, hm, rfl, hown, hbx, hbr⟩ := hrel
                  have HO6 := Lib.hid hown
                  have HBX6 := Lib.hid hbx
                  have HB6 := Lib.hid hbr
                  have hz6 : wo.heap.size < wr.heap.size := hbx.lt
                  have hzw : w.heap.size < wr.heap.size := by omega
                  clear hown hbx hbr
                  by_cases hml : m < q.deps.length
                  · obtain ⟨s, hs⟩ : ∃ x, q.deps[m]? = some x := ⟨q.deps[m], by simp [hml]⟩
                    obtain ⟨b4, o4, ra, rc, rfl, hbl4, hcs, hsp⟩ := HA2.out.deps.spAt2 hs
                    obtain ⟨s0, s1, s2, s3, s4⟩ := hcs _ HB6.out
                    have HSN := Lib.hid (anyB_snoc (p := fun s => Q.mt s r) hs)
                    have HSP := Lib.hid hsp
                    clear hs hcs hsp
                    generalize hv : (v || (q.deps.take m).any fun s => Q.mt s r) = v6 at HO6
                    have HV6 := Lib.hid hv
                    clear hv
                    have hcur : (X.set i v6)[i]? = some v6 := set_at hix
                    obtain ⟨hcc, hff⟩ := HO6.out.cell hcur
                    have c0 := HBX6.out.cell 0
                    have c1 := HBX6.out.cell 1
                    have c2 := HBX6.out.cell 2
                    have c3 := HBX6.out.cell 3
                    have c4 := HBX6.out.cell 4
                    have c5 := HBX6.out.cell 5
                    have c6 := HBX6.out.cell 6
                    have c7 := HBX6.out.cell 7
                    have c8 := HBX6.out.cell 8
                    have c9 := HBX6.out.cell 9
                    have c10 := HBX6.out.cell 10
                    have c11 := HBX6.out.cell 11
                    have c12 := HBX6.out.cell 12
                    simp only [List.getElem?_toArray, List.getElem?_cons_zero, List.getElem?_cons_succ] at c0 c1 c2 c3 c4 c5 c6 c7 c8 c9 c10 c11 c12
                    cases v6
                    · have hcn := cell_old hcc (Obj.cells #[.string s.chan, .string s.name, .slice ra s.rows.length rc, .string s.build, .int .i64 s.num] 35)
                      have hfn := (HO6.out.below (b1 wr (Obj.cells #[.string s.chan, .string s.name, .slice ra s.rows.length rc, .string s.build, .int .i64 s.num] 35))).cell hcur
                      go_wp2_with fail
                      (with_reducible refine (dmatch_any s r ra pa la rc pc lc _ _ _ _ ((HSP.out.below HB6.out).below (b1 _ _)) ⟨((HA.out.ver.below HB6.out).below (b1 _ _)), HBU.out⟩).mono ?_)
                      rintro e w7 ⟨rfl, hb⟩
                      have hO7 := (HO6.out.below (b1 _ _)).below hb
                      have HO7 := Lib.hid hO7
                      have HBX7 := Lib.hid ((HBX6.out.below (b1 _ _)).below hb)
                      have HB7 := Lib.hid (fin (HB6.out.alloc (by omega) _) hb)
                      obtain ⟨hcc7, hff7⟩ := hO7.cell hcur
                      have hz7 : w.heap.size < w7.heap.size := cell_lt hcc7
                      generalize hmm : Q.mt s r = mm
                      have HMM := Lib.hid hmm
                      clear hb hO7 hmm hcn hfn hcc hff hcur c0 c1 c2 c3 c4 c5 c6 c7 c8 c9 c10 c11 c12
                      go_wp2
                      go_roundw
                      case rel => exact ⟨m + 1, by omega, by go_num, (by rw [HSN.out, ← Bool.or_assoc, HV6.out, HMM.out]; exact HO7.out.store _), HBX7.out.set (by simp; omega) _, HB7.out.setCell (Nat.le_refl _) _⟩
                      case measure => simp [intOf]; omega
                    · clear c0 c1 c2 c3 c4 c5 c6 c7 c8 c9 c10 c11 c12
                      go_wp2
                      go_roundw
                      case rel => exact ⟨m + 1, by omega, by go_num, (by rw [HSN.out, ← Bool.or_assoc, HV6.out]; exact (HO6.out.store true).below (b1 _ _)), (HBX6.out.set (by simp; omega) _).below (b1 _ _), (HB6.out.setCell (Nat.le_refl _) _).alloc (by simp; omega) _⟩
                      case measure => simp [intOf]; omega
                  · have hme : q.deps.take m = q.deps := List.take_of_length_le (by omega)
                    rw [hme] at HO6
                    clear hme
                    go_wp2
                    go_roundw
                    case rel => exact ⟨k + 1, by omega, by go_num, (by rw [HNU.out, ← Bool.or_assoc, HV.out, ← HVZ.out]; exact HO6.out), HBX6.out, HB6.out⟩
                    case measure => simp [intOf]; omega
            · have hke : k = l.length := by omega
              have hst : X.set i (x || (roots.any fun s => Q.mt s r) || needUpto l X r k) = Q.reachUpto l on roots X0 (i + 1) := by
                show _ = Q.reachAt l on roots (Q.reachUpto l on roots X0 i) i
                rw [← HX.out, reachAt_on HXI.out HY.out HXX.out, hke, needUpto_all]
              have HST := Lib.hid hst
              clear hke hst
              go_wp2
              go_roundw
              case rel => exact ⟨i + 1, by omega, by go_num, HST.out ▸ HO4.out, HB4.out, (by omega)⟩
              case measure => simp [intOf]; omega
end Go.Proofs.YtpminhafljlldaaDoor

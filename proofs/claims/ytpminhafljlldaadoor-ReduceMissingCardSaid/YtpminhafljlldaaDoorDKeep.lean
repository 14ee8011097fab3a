/- Contracts of the document's Keep and Reach. -/
import Derived.Test.YtpminhafljlldaaDoorDRed
import Derived.Test.YtpminhafljlldaaDoorQAll
namespace Go.Proofs.YtpminhafljlldaaDoor
open Go.RowKit
open Q (It Ver Tm Sp Rc Dm)

theorem Sl.boolsOf {w : World} {a : Option Addr} {m : List Bool} (h : Sl RBo 1 w a m) : Bools w a m := by
  refine ⟨fun h0 => ?_, Nat.le_trans h.len (by omega)⟩
  obtain ⟨b, off, e, hlt, hc⟩ := h.addr h0
  refine ⟨b, off, e, hlt, fun i z hz => ?_⟩
  obtain ⟨us, u1, u2, u3⟩ := hc i z hz
  have c0 := u2 0 (by omega)
  rw [u3] at c0
  simpa using c0
/-- a list of bools came back -/
def DBools (w : World) (m : List Bool) (e : Ending) (w' : World) : Prop := ∃ a c, e = .returned (.slice a m.length c) ∧ Bools w' a m ∧ Below w.heap.size w w'
/-- the first places of a new row -/
def rowUpto (f : Nat → Bool) (n i : Nat) : List Bool := (List.range i).map f ++ List.replicate (n - i) false
theorem rowUpto_len {f : Nat → Bool} {n i : Nat} (h : i ≤ n) : (rowUpto f n i).length = n := by unfold rowUpto; simp; omega
theorem rowUpto_here {f : Nat → Bool} {n i : Nat} (h : i < n) : (rowUpto f n i)[i]? = some false := by
  unfold rowUpto; rw [List.getElem?_append_right (by simp), List.getElem?_replicate]; simp; omega
theorem rowUpto_set {f : Nat → Bool} {n i : Nat} (h : i < n) : (rowUpto f n i).set i (f i) = rowUpto f n (i + 1) := by
  unfold rowUpto
  rw [show n - i = (n - (i + 1)) + 1 by omega, List.replicate_succ, List.set_append_right _ _ (by simp)]
  simp [List.range_succ]
theorem keepAt_on {l : List Rc} {now : List Bool} {i : Nat} {r : Rc} {y : Bool} (hr : l[i]? = some r) (hy : now[i]? = some y) : Q.keepAt l now i = (y && Q.dneeds l now r) := by
  unfold Q.keepAt; rw [hr, hy]; cases y <;> rfl
theorem dneeds_len (r : Rc) (pa la da ca fa : Option Addr) (pc lc dc cc fc : Nat) (a b : Option Addr) (c e : Nat) (l : List Rc) (ch : List Bool) (w : World) (hD : Sl RSp 5 w da r.deps) (hR : RIn w a b l ch) (hl : ch.length = l.length) :
    Calls Tryd.prog 59 #[.slice a l.length c, .slice b l.length e, .agg #[.string r.chan, .string r.file, .string r.name, .string r.text, .int .i64 r.ver.ep, .slice pa r.ver.parts.length pc, .slice la r.ver.loc.length lc, .string r.build, .int .i64 r.num, .int .i64 r.time, .slice da r.deps.length dc, .slice ca r.cons.length cc, .slice fa r.feats.length fc]] w fun e w' => e = .returned (.bool (Q.dneeds l ch r)) ∧ Below w.heap.size w w' := by
  have h := dneeds_any r pa la da ca fa pc lc dc cc fc a b c e l ch w hD hR hl
  rw [hl] at h
  exact h
set_option maxHeartbeats 4000000 in
set_option maxRecDepth 100000 in
theorem dkeep_any (a b : Option Addr) (c e : Nat) (l : List Rc) (on : List Bool) (w : World) (hR : RIn w a b l on) (hl : on.length = l.length) (hbc : b = none → e = 0) (h60 : l.length ≤ 1000) :
    Calls Tryd.prog 28 #[.slice a l.length c, .slice b on.length e] w (DBools w (Q.keepIter l on (l.length + 1))) := by
  have HR := Lib.hid hR
  have hb1 : Below w.heap.size w (w.alloc (Obj.cells #[] 4)) := b1 _ _
  have HSB := Lib.hid (Bools.sl (hR.bools.below hb1) (by omega))
  have hl2 : on.length ≤ 1000 := by omega
  have HL := Lib.hid hl
  clear hR hl hb1
  go_enter Tryd.func28, Tryd.ntmps28
  go_wp2_with (at_builtin; refine wpList_append_flat Tryd.infoBool rfl (by decide) rfl (.tmp 10) (.tmp 11) 23 rfl Tryd.underlying23 w.heap.size _ _ _ [] rfl (Own.made0 _ 1 w _ (Nat.le_refl _)) _ _ _ on rfl rfl HSB.out (RBo.ones _) hbc (by omega) (by omega) (by simp) ?_; intro a1 c1 w1 cells1 hown1 hF1 hg1 hB1; have HB1 := Lib.hid (((b1 w _).trans hB1)); have hs1 : Sl RBo 1 w1 a1 on := Own.sl (by simpa using hown1) (hF1.mono fun us x _ h => h) (by omega); have HS1 := Lib.hid hs1.boolsOf; clear hg1 hown1 hB1 hF1 hs1)
  go_loopw [5, 6, 7, 8, 9] (fun s5 s6 _ _ _ wr => ∃ (n : Nat) (a5 : Option Addr) (c5 : Nat), n ≤ l.length + 1 ∧ s6 = .int .i64 n ∧ s5 = .slice a5 l.length c5 ∧ Bools wr a5 (Q.keepIter l on n) ∧ Below w.heap.size w wr) (fun _ s6 _ _ _ _ => l.length + 1 - (intOf s6).toNat)
  case atStart => exact ⟨0, a1, c1, by omega, rfl, (by rw [HL.out]), HS1.out, HB1.out⟩
  case round =>
    obtain ⟨n, a5, c5, hn, rfl, rfl, hbo, hbr⟩ := hrel
    have HBO := Lib.hid hbo
    have HB := Lib.hid hbr
    have HLN := Lib.hid (Q.keepIter_len (l := l) (on := on) HL.out n)
    obtain ⟨now, hnow⟩ : ∃ now, now = Q.keepIter l on n := ⟨_, rfl⟩
    have HNOW := Lib.hid hnow
    rw [← hnow] at HBO HLN
    clear hbo hbr hnow
    by_cases hlt : n < l.length + 1
    · have hle : (n : Int) ≤ (l.length : Int) := by omega
      obtain ⟨wo, rfl⟩ : ∃ wo : World, wo = wr := ⟨_, rfl⟩
      go_wp2_with (at_make; refine wpList_make_BoolsW rfl (.tmp 20) (.tmp 20) rfl wo.heap.size l.length rfl rfl (by omega) (Nat.le_refl _) ?_; intro w5 hown5 hb5 hlt5; have HO5 := Lib.hid hown5; have HB5 := Lib.hid hb5; clear hown5 hb5)
      go_loopw [8, 9, 24] (fun _ _ i wr => ∃ (j : Nat), j ≤ l.length ∧ i = .int .i64 j ∧ OwnB wr wo.heap.size (some ⟨wo.heap.size, 0, none⟩) l.length (rowUpto (Q.keepAt l now) l.length j) ∧ Below wo.heap.size wo wr ∧ wo.heap.size < wr.heap.size) (fun _ _ i _ => l.length - (intOf i).toNat)
      case atStart => exact ⟨0, by omega, rfl, HO5.out, HB5.out, hlt5⟩
      case round =>
        obtain ⟨j, hj, rfl, hown, hbr, hzz⟩ := hrel
        have HO := Lib.hid hown
        have HBR := Lib.hid hbr
        clear hown hbr
        by_cases hjl : j < l.length
        · have hjn : j < now.length := by have := HLN.out; omega
          obtain ⟨r, hx⟩ : ∃ x, l[j]? = some x := ⟨l[j], by simp [hjl]⟩
          obtain ⟨y, hy⟩ : ∃ x, now[j]? = some x := ⟨now[j], by simp [hjn]⟩
          obtain ⟨bb, off, pa, la, pc, lc, da, dc, ca, cc, fa, fc, rfl, hbl, ⟨t0, t1, t2, t3, t4, t5, t6, t7, t8, t9, t10, t11, t12⟩, hat⟩ := (HR.out.recs.below stays_RRc (fin HB.out HBR.out)).rcAll hx
          obtain ⟨b2, o2, rfl, hbl2, hcb⟩ := (HBO.out.below HBR.out).addr (by omega)
          have hcy := hcb j y hy
          have HKA := Lib.hid (keepAt_on hx hy)
          have HA := Lib.hid hat
          clear hx hy hcb hat
          cases y
          · have hcn := cell_old (HO.out.cell (i := j) (z := false) (rowUpto_here hjl)) (Obj.cells #[.string r.chan, .string r.file, .string r.name, .string r.text, .int .i64 r.ver.ep, .slice pa r.ver.parts.length pc, .slice la r.ver.loc.length lc, .string r.build, .int .i64 r.num, .int .i64 r.time, .slice da r.deps.length dc, .slice ca r.cons.length cc, .slice fa r.feats.length fc] 69)
            have hfn := (HO.out.below (b1 wr (Obj.cells #[.string r.chan, .string r.file, .string r.name, .string r.text, .int .i64 r.ver.ep, .slice pa r.ver.parts.length pc, .slice la r.ver.loc.length lc, .string r.build, .int .i64 r.num, .int .i64 r.time, .slice da r.deps.length dc, .slice ca r.cons.length cc, .slice fa r.feats.length fc] 69))).frozen j
            go_wp2
            go_roundw
            case rel => exact ⟨j + 1, by omega, by go_num, (by rw [← rowUpto_set hjl, HKA.out]; exact (HO.out.stored j false).below (b1 _ _)), (HBR.out.setCell (Nat.le_refl _) _).alloc (by simp; omega) _, (by simp; omega)⟩
            case measure => simp [intOf]; omega
          · go_wp2_with fail
            (with_reducible refine (dneeds_len r _ _ _ _ _ _ _ _ _ _ _ _ _ _ l now _ (HA.out.below (b1 _ _)).deps ⟨(HR.out.recs.below stays_RRc (fin HB.out HBR.out)).below stays_RRc (b1 _ _), (HBO.out.below HBR.out).below (b1 _ _)⟩ HLN.out).mono ?_)
            rintro e w2 ⟨rfl, hb⟩
            have HB2 := Lib.hid (fin (HBR.out.alloc HBR.out.size _) hb)
            have hO2 := (HO.out.below (b1 _ _)).below hb
            have HO2 := Lib.hid hO2
            have hcn := hO2.cell (i := j) (z := false) (rowUpto_here hjl)
            have hfn := hO2.frozen j
            have hz2 : wo.heap.size < w2.heap.size := cell_lt hcn
            clear hb hO2
            go_wp2
            go_roundw
            case rel => exact ⟨j + 1, by omega, by go_num, (by rw [← rowUpto_set hjl, HKA.out]; exact HO2.out.stored j _), HB2.out.setCell (Nat.le_refl _) _, (by simp; omega)⟩
            case measure => simp [intOf]; omega
        · have hje : j = l.length := by omega
          have hstep : rowUpto (Q.keepAt l now) l.length j = Q.keepIter l on (n + 1) := by
            rw [hje]; unfold rowUpto; rw [Nat.sub_self, List.replicate_zero, List.append_nil]
            show _ = Q.keepStep l (Q.keepIter l on n)
            rw [← HNOW.out]; rfl
          have HST := Lib.hid hstep
          have hlj := rowUpto_len (f := Q.keepAt l now) hj
          have HLJ := Lib.hid hlj
          clear hje hstep hlj
          go_wp2
          go_roundw
          case rel => exact ⟨n + 1, _, _, by omega, by go_num, rfl, (by rw [← HST.out]; exact HO.out.bools (by rw [HLJ.out]; omega)), fin HB.out HBR.out⟩
          case measure => simp [intOf]; omega
    · have hne : n = l.length + 1 := by omega
      have hgt : (l.length : Int) < (n : Int) := by omega
      have HNE := Lib.hid hne
      clear hne
      go_wp2
      go_ret
      refine ⟨a5, c5, ?_, ?_, HB.out⟩
      · rw [Q.keepIter_len HL.out]; rfl
      · rw [← HNE.out, ← HNOW.out]; exact HBO.out
end Go.Proofs.YtpminhafljlldaaDoor

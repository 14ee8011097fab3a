/- The contract of the document's globs. -/
import Derived.Test.YtpminhafljlldaaDoorDWant
import Derived.Test.YtpminhafljlldaaDoorQBools
import Derived.BigRegion
import Derived.StillTailTactics
namespace Go.Proofs.YtpminhafljlldaaDoor
open Go.RowKit

/-- which first parts of a text the first k bytes of a pattern match -/
def gpRow (P T : List UInt8) (k n : Nat) : List Bool := (List.range n).map (Q.gp P T k)
theorem gpRow_len (P T : List UInt8) (k n : Nat) : (gpRow P T k n).length = n := by simp [gpRow]
theorem gpRow_at {P T : List UInt8} {k n i : Nat} (h : i < n) : (gpRow P T k n)[i]? = some (Q.gp P T k i) := by simp [gpRow, h]
theorem gpRow0 (P T : List UInt8) : (List.replicate (T.length + 1) false).set 0 true = gpRow P T 0 (T.length + 1) := by
  apply List.ext_getElem?
  intro i
  by_cases h : i < T.length + 1
  · rw [gpRow_at h, Q.gp00 _ _ _ (by omega)]
    rw [List.getElem?_set]
    by_cases h0 : i = 0
    · subst h0; simp
    · rw [if_neg (fun e => h0 e.symm), List.getElem?_replicate, if_pos h]; simp [h0]
  · rw [List.getElem?_eq_none (by simp; omega), List.getElem?_eq_none (by rw [gpRow_len]; omega)]
theorem gpRow_set {P T : List UInt8} {k n i : Nat} (h : i < n) : (gpRow P T k i ++ List.replicate (n - i) false).set i (Q.gp P T k i) = gpRow P T k (i + 1) ++ List.replicate (n - (i + 1)) false := by
  rw [show n - i = (n - (i + 1)) + 1 by omega, List.replicate_succ, List.set_append_right _ _ (by rw [gpRow_len]; exact Nat.le_refl _), gpRow_len, Nat.sub_self, List.set_cons_zero]
  unfold gpRow
  rw [List.range_succ, List.map_append]; simp
theorem part_at {P T : List UInt8} {k n i j : Nat} (h : j < i) : (gpRow P T k i ++ List.replicate (n - i) false)[j]? = some (Q.gp P T k j) := by
  rw [List.getElem?_append_left (by rw [gpRow_len]; exact h), gpRow_at h]
theorem part_here {P T : List UInt8} {k n i : Nat} (h : i < n) : (gpRow P T k i ++ List.replicate (n - i) false)[i]? = some false := by
  rw [List.getElem?_append_right (by rw [gpRow_len]; exact Nat.le_refl _), gpRow_len, Nat.sub_self, List.getElem?_replicate, if_pos (by omega)]
/-- make([]bool, n), n as large as memory may be -/
theorem wpList_make_BoolsW {w : World} {ops : Array Oper} {rest : List Oper} {o : Oper} {act : Act} {Q : Exit → Act → World → Prop} (hgd : o.guard = none) (l c : Operand) (hop : o.op = Op.makeSlice 23 l c)
    (base n : Nat) (hl : act.eval l = .int .i64 n) (hc : act.eval c = .int .i64 n) (hn : n ≤ 281474976710656) (hbase : base ≤ w.heap.size)
    (h : ∀ w', OwnB w' base (some ⟨w.heap.size, 0, none⟩) n (List.replicate n false) → Below w.heap.size w w' → w.heap.size < w'.heap.size → wpList Tryd.prog ops Q rest (act.put o.dst (.slice (some ⟨w.heap.size, 0, none⟩) n n)) w') :
    wpList Tryd.prog ops Q (o :: rest) act w := by
  obtain ⟨i0, hi, hz0, hz1, hz2⟩ := info_parts Tryd.infoBool
  refine wpList_make_full w hgd l c 23 hop base 4 i0 (.bool false) 1 Tryd.underlying23 hi hz0 hz1 .i64 .i64 n n n hl hc rfl rfl (by rw [hz2]; omega) (by unfold maxLen; omega) hbase ?_
  intro w' h1 h2
  rw [made_bools] at h1
  have h3 : OwnB w' base (some ⟨w.heap.size, 0, none⟩) n (List.replicate n false) := by
    unfold OwnB; rw [List.length_replicate]; exact h1
  refine h w' h3 ⟨h2.os, h2.tape, h2.output, h2.size, fun k hk => h2.block k hk (by simp)⟩ ?_
  rcases h3.parts with ⟨e, _⟩ | ⟨g, cur, e, _, hlt, _⟩
  · cases e
  · cases e; exact hlt
theorem OwnB.far {w : World} {base g c h : Nat} {ys : List Bool} (hO : OwnB w base (some ⟨g, 0, none⟩) c ys) (hne : g ≠ h) (i : Nat) (v : Value) : OwnB (w.setCell ⟨h, i, none⟩ v) base (some ⟨g, 0, none⟩) c ys := by
  refine Own.same hO fun q e => ?_
  cases e
  exact Below.heap_setCell _ _ _ _ hne
set_option maxHeartbeats 4000000 in
set_option maxRecDepth 100000 in
theorem dglob_any (p t : ByteArray) (w : World) (hp : SzS p) (ht : SzS t) :
    Calls Tryd.prog 77 #[.string p, .string t] w fun e w' => e = .returned (.bool (Q.globM p.toList t.toList)) ∧ Below w.heap.size w w' := by
  unfold SzS at hp ht
  have hT : t.toList.length = t.size := bl
  have hP : p.toList.length = p.size := bl
  have HT := Lib.hid hT
  have HP := Lib.hid hP
  have hq : Q.gp p.toList t.toList p.size t.size = Q.globM p.toList t.toList := by rw [← hP, ← hT]; exact Q.gp_all _ _
  generalize Q.globM p.toList t.toList = r at hq ⊢
  have HQ := Lib.hid hq
  have hr0 : (List.replicate (t.size + 1) false).set 0 true = gpRow p.toList t.toList 0 (t.size + 1) := by rw [← hT]; exact gpRow0 _ _
  have HR0 := Lib.hid hr0
  clear hT hP hq hr0
  go_enter Tryd.func77, Tryd.ntmps77
  go_wp2_with (at_make; refine wpList_make_BoolsW rfl (.tmp 11) (.tmp 11) rfl w.heap.size (t.size + 1) rfl rfl (by omega) (Nat.le_refl _) ?_; intro w4 hown hb4 hlt4; have hfz := hown.frozen 0; have hc0 := hown.cell (i := 0) (z := false) (by simp); have HO4 := Lib.hid hown; have HB4 := Lib.hid hb4; clear hown hb4)
  go_loopw [5, 6, 7, 8] (fun c i _ _ wr => ∃ (k g : Nat), k ≤ p.size ∧ i = .int .i64 k ∧ c = .slice (some ⟨g, 0, none⟩) (t.size + 1) (t.size + 1) ∧ w.heap.size ≤ g ∧ OwnB wr w.heap.size (some ⟨g, 0, none⟩) (t.size + 1) (gpRow p.toList t.toList k (t.size + 1)) ∧ Below w.heap.size w wr) (fun _ i _ _ _ => p.size - (intOf i).toNat)
  case atStart => exact ⟨0, w.heap.size, by omega, rfl, rfl, Nat.le_refl _, (by rw [← HR0.out]; exact HO4.out.stored 0 true), HB4.out.setCell (Nat.le_refl _) _⟩
  case round =>
    obtain ⟨k, g, hk, rfl, rfl, hg, hown, hbr⟩ := hrel
    clear hfz hc0
    have HO := Lib.hid hown
    have HB := Lib.hid hbr
    have hzr : w.heap.size ≤ wr.heap.size := hbr.size
    have hgr : g < wr.heap.size := by
      rcases hown.parts with ⟨e, _⟩ | ⟨g', cur, e, _, hlt, _⟩
      · cases e
      · cases e; exact hlt
    clear hown hbr
    by_cases hlt : k < p.size
    · obtain ⟨wo, rfl⟩ : ∃ wo : World, wo = wr := ⟨_, rfl⟩
      go_wp2_with (at_make; refine wpList_make_BoolsW rfl (.tmp 23) (.tmp 23) rfl w.heap.size (t.size + 1) rfl rfl (by omega) hzr ?_; intro w5 hown5 hb5 hlt5; have HO5 := Lib.hid hown5; have HB5 := Lib.hid hb5; clear hown5 hb5)
      go_loopw [8] (fun ii wr => ∃ (i : Nat), i ≤ t.size + 1 ∧ ii = .int .i64 i ∧ OwnB wr w.heap.size (some ⟨wo.heap.size, 0, none⟩) (t.size + 1) (gpRow p.toList t.toList (k + 1) i ++ List.replicate (t.size + 1 - i) false) ∧ OwnB wr w.heap.size (some ⟨g, 0, none⟩) (t.size + 1) (gpRow p.toList t.toList k (t.size + 1)) ∧ Below w.heap.size w wr) (fun ii _ => t.size + 1 - (intOf ii).toNat)
      case atStart => exact ⟨0, by omega, rfl, HO5.out, HO.out.below HB5.out, fin HB.out HB5.out⟩
      case round =>
        obtain ⟨i, hi, rfl, hn, hc, hbr⟩ := hrel
        have HN := Lib.hid hn
        have HC := Lib.hid hc
        have HBR := Lib.hid hbr
        clear hn hc hbr
        by_cases hil : i < t.size + 1
        · have hle : (i : Int) ≤ (t.size : Int) := by omega
          have cc := HC.out.cell (i := i) (gpRow_at hil)
          have ch := HN.out.cell (i := i) (part_here hil)
          have fh := HN.out.frozen i
          generalize hx : Q.gp p.toList t.toList k i = x at cc
          have HX := Lib.hid hx
          clear hx
          by_cases h42 : ((p[k].toNat : Int) == 42) = true
          · have hc42 := bat42 hlt h42
            have HS := Lib.hid (Q.gp_star (P := p.toList) (T := t.toList) hc42 (i := i) (by rw [HT.out]; omega))
            clear hc42
            cases x
            · rcases Nat.eq_zero_or_pos i with h0 | h0
              · have hv : Q.gp p.toList t.toList (k + 1) i = false := by rw [HS.out, HX.out, h0]; rfl
                have HV := Lib.hid hv
                have hi0 : decide (0 < i) = false := by rw [h0]; rfl
                clear hv h0
                go_wp2
                go_roundw
                case rel => exact ⟨i + 1, by omega, by go_num, (by rw [← gpRow_set hil, HV.out]; exact HN.out.stored i false), HC.out.far (by omega) _ _, HBR.out.setCell hzr _⟩
                case measure => simp [intOf]; omega
              · obtain ⟨j, rfl⟩ : ∃ j, i = j + 1 := ⟨i - 1, by omega⟩
                have cp := HN.out.cell (i := j) (part_at (by omega))
                have hv : Q.gp p.toList t.toList (k + 1) (j + 1) = Q.gp p.toList t.toList (k + 1) j := by rw [HS.out, HX.out]; simp
                generalize Q.gp p.toList t.toList (k + 1) j = y at cp hv
                have HV := Lib.hid hv
                clear hv
                go_wp2
                go_roundw
                case rel => exact ⟨j + 2, by omega, by go_num, (by rw [← gpRow_set hil, HV.out]; exact HN.out.stored (j + 1) y), HC.out.far (by omega) _ _, HBR.out.setCell hzr _⟩
                case measure => simp [intOf]; omega
            · have hv : Q.gp p.toList t.toList (k + 1) i = true := by rw [HS.out, HX.out]; rfl
              have HV := Lib.hid hv
              clear hv
              go_wp2
              go_roundw
              case rel => exact ⟨i + 1, by omega, by go_num, (by rw [← gpRow_set hil, HV.out]; exact HN.out.stored i true), HC.out.far (by omega) _ _, HBR.out.setCell hzr _⟩
              case measure => simp [intOf]; omega
          · have h42' : ((p[k].toNat : Int) == 42) = false := by simpa using h42
            clear h42
            have hn42 := bat_no h42'
            have HS := Lib.hid (Q.gp_lit (P := p.toList) (T := t.toList) (bat hlt) hn42 (i := i) (by rw [HT.out]; omega))
            clear hn42
            rcases Nat.eq_zero_or_pos i with h0 | h0
            · have hv : Q.gp p.toList t.toList (k + 1) i = false := by rw [HS.out, h0]; rfl
              have HV := Lib.hid hv
              have hi0 : decide (0 < i) = false := by rw [h0]; rfl
              clear hv h0
              go_wp2
              go_region
              all_goals
                go_wp2
                go_roundw
                case rel => exact ⟨i + 1, by omega, by go_num, (by rw [← gpRow_set hil, HV.out]; exact (HN.out.below ((Below.refl _ _).drew)).stored i false), OwnB.far (HC.out.below ((Below.refl _ _).drew)) (by omega) _ _, HBR.out.drew.setCell hzr _⟩
                case measure => simp [intOf]; omega
            · obtain ⟨j, rfl⟩ : ∃ j, i = j + 1 := ⟨i - 1, by omega⟩
              have cp := HC.out.cell (i := j) (gpRow_at (by omega))
              have hv : Q.gp p.toList t.toList (k + 1) (j + 1) = (Q.gp p.toList t.toList k j && (t.toList[j]? == some p[k])) := by rw [HS.out]; simp
              generalize Q.gp p.toList t.toList k j = y at cp hv
              cases y
              · have HV := Lib.hid (show Q.gp p.toList t.toList (k + 1) (j + 1) = false from hv)
                clear hv
                go_wp2
                go_region
                all_goals
                  go_wp2
                  go_roundw
                  case rel => exact ⟨j + 2, by omega, by go_num, (by rw [← gpRow_set hil, HV.out]; exact (HN.out.below ((Below.refl _ _).drew)).stored (j + 1) false), OwnB.far (HC.out.below ((Below.refl _ _).drew)) (by omega) _ _, HBR.out.drew.setCell hzr _⟩
                  case measure => simp [intOf]; omega
              · have hjt : j < t.size := by omega
                have hvv : (t.toList[j]? == some p[k]) = ((t[j].toNat : Int) == (p[k].toNat : Int)) := by
                  rw [bat hjt, Bool.eq_iff_iff]
                  simp only [beq_iff_eq, Option.some.injEq]
                  constructor
                  · intro e; rw [e]
                  · intro e; exact UInt8.toNat_inj.1 (by omega)
                have HV := Lib.hid (show Q.gp p.toList t.toList (k + 1) (j + 1) = ((t[j].toNat : Int) == (p[k].toNat : Int)) by rw [hv, hvv]; rfl)
                clear hv hvv
                go_wp2
                go_region
                all_goals
                  go_wp2
                  go_roundw
                  case rel => exact ⟨j + 2, by omega, by go_num, (by rw [← gpRow_set hil, HV.out]; exact (HN.out.below ((Below.refl _ _).drew)).stored (j + 1) _), OwnB.far (HC.out.below ((Below.refl _ _).drew)) (by omega) _ _, HBR.out.drew.setCell hzr _⟩
                  case measure => simp [intOf]; omega
        · have hgt : (t.size : Int) < (i : Int) := by omega
          have hie : i = t.size + 1 := by omega
          have h1 := HN.out
          rw [hie, Nat.sub_self, List.replicate_zero, List.append_nil] at h1
          have H1 := Lib.hid h1
          clear h1 hie
          go_wp2
          go_roundw
          case rel => exact ⟨k + 1, wo.heap.size, by omega, by go_num, rfl, hzr, H1.out, HBR.out⟩
          case measure => simp [intOf]; omega
    · have hke : k = p.size := by omega
      have hc := HO.out.cell (i := t.size) (z := r) (by rw [gpRow_at (by omega), hke, HQ.out])
      clear hke
      go_wp2
      go_ret
      exact ⟨rfl, HB.out⟩
end Go.Proofs.YtpminhafljlldaaDoor

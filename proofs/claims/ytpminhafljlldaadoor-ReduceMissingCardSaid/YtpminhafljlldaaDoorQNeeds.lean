/- The contract of reduce.needs. -/
import Derived.Test.YtpminhafljlldaaDoorQRedW
import Derived.Test.YtpminhafljlldaaDoorQBigAll
import Derived.OneCell
import Derived.Laws.Rows
import Derived.Deep.RegionLaw
namespace Go.Proofs.YtpminhafljlldaaDoor
open Go.RowKit
open Q (It Ver Tm Sp Rc Dm)

/-- a row of sets that lies behind block g and below block B -/
def UsG (g B : Nat) (w : World) (a : Option Addr) (xs : List Nat) : Prop :=
  xs.length ≤ 5864062014805 ∧ (0 < xs.length → ∃ b, a = some ⟨b, 0, none⟩ ∧ g < b ∧ b < B ∧ ∀ (i : Nat) x, xs[i]? = some x → w.cell? ⟨b, i, none⟩ = some (.int .u64 (x : Nat)))
theorem UsG.same {g B B' : Nat} {w w' : World} {a : Option Addr} {xs : List Nat} (h : UsG g B w a xs) (hB : B ≤ B') (he : ∀ k, g < k → k < B → w'.heap[k]? = w.heap[k]?) : UsG g B' w' a xs := by
  refine ⟨h.1, fun h0 => ?_⟩
  obtain ⟨b, e, h1, h2, h3⟩ := h.2 h0
  refine ⟨b, e, h1, by omega, fun i x hx => ?_⟩
  have := h3 i x hx
  unfold World.cell? at this ⊢
  simp only at this ⊢
  rw [he b h1 h2]; exact this
structure NRow (w0 : World) (g n k : Nat) (F : Nat → List Nat) (Bk : Nat) (wr : World) (a : Option Addr) (c j : Nat) (cells : List Value) : Prop where
  row : ∃ vals : Array Value, wr.heap[g]? = some (.cells vals 93 (0, 0)) ∧ vals.size = n ∧ vals[k]? = some (.slice a j c) ∧ (∀ i, i < k → ∃ a' c', vals[i]? = some (.slice a' (F i).length c') ∧ UsG g Bk wr a' (F i)) ∧ ∀ i, k < i → i < n → vals[i]? = some (.slice none 0 0)
  own : Own 92 1 wr Bk a c j cells
  lt : g < Bk
  size : Bk ≤ wr.heap.size
  below : Below w0.heap.size w0 wr
  ge : w0.heap.size ≤ g
theorem NRow.mono {w0 : World} {g n k : Nat} {F : Nat → List Nat} {Bk : Nat} {wr w' : World} {a : Option Addr} {c j : Nat} {cells : List Value} (h : NRow w0 g n k F Bk wr a c j cells) (hb : Below wr.heap.size wr w') : NRow w0 g n k F Bk w' a c j cells := by
  obtain ⟨vals, h1, h2, h3, h4, h5⟩ := h.row
  have hg : g < wr.heap.size := Nat.lt_of_lt_of_le h.lt h.size
  refine ⟨⟨vals, (hb.block g hg).trans h1, h2, h3, fun i hi => ?_, h5⟩, h.own.below hb, h.lt, Nat.le_trans h.size hb.size, fin h.below hb, h.ge⟩
  obtain ⟨a', c', e1, e2⟩ := h4 i hi
  exact ⟨a', c', e1, e2.same (Nat.le_refl _) fun k _ hk => hb.block k (Nat.lt_of_lt_of_le hk h.size)⟩
theorem NRow.cell {w0 : World} {g n k : Nat} {F : Nat → List Nat} {Bk : Nat} {wr : World} {a : Option Addr} {c j : Nat} {cells : List Value} (h : NRow w0 g n k F Bk wr a c j cells) : wr.cell? ⟨g, k, none⟩ = some (.slice a j c) ∧ wr.frozen? ⟨g, k, none⟩ = false := by
  obtain ⟨vals, h1, h2, h3, h4, h5⟩ := h.row
  exact ⟨by rw [cell_of_cells h1]; exact h3, by simp [World.frozen?, h1]⟩
theorem NRow.kept {w0 : World} {g n k : Nat} {F : Nat → List Nat} {Bk : Nat} {W w3 : World} {a : Option Addr} {c j : Nat} {cells : List Value} (h : NRow w0 g n k F Bk W a c j cells) (hG : W.grownBy w3 (Value.slice a j c).ownBlock) : ∀ q, q < Bk → w3.heap[q]? = W.heap[q]? := fun q hq => by
  refine hG.block q (Nat.lt_of_lt_of_le hq h.size) fun e => ?_
  have := ownBlock_ge h.own q j e.symm
  omega
theorem NRow.cell3 {w0 : World} {g n k : Nat} {F : Nat → List Nat} {Bk : Nat} {W w3 : World} {a : Option Addr} {c j : Nat} {cells : List Value} (h : NRow w0 g n k F Bk W a c j cells) (hG : W.grownBy w3 (Value.slice a j c).ownBlock) : w3.cell? ⟨g, k, none⟩ = some (.slice a j c) ∧ w3.frozen? ⟨g, k, none⟩ = false := by
  obtain ⟨vals, h1, h2, h3, h4, h5⟩ := h.row
  have e := (h.kept hG g h.lt).trans h1
  exact ⟨by rw [cell_of_cells e]; exact h3, by simp [World.frozen?, e]⟩
theorem NRow.step {w0 : World} {g n k : Nat} {F : Nat → List Nat} {Bk : Nat} {W w3 : World} {a a3 : Option Addr} {c c3 j : Nat} {cells : List Value} {v : Value} (h : NRow w0 g n k F Bk W a c j cells) (hk : k < n) (hO : Own 92 1 w3 Bk a3 c3 (j + 1) (cells ++ [v])) (hG : W.grownBy w3 (Value.slice a j c).ownBlock) :
    NRow w0 g n k F Bk (w3.setCell ⟨g, k, none⟩ (.slice a3 (j + 1) c3)) a3 c3 (j + 1) (cells ++ [v]) := by
  obtain ⟨vals, h1, h2, h3, h4, h5⟩ := h.row
  have hkp := h.kept hG
  have e := (hkp g h.lt).trans h1
  refine ⟨⟨vals.setIfInBounds k (.slice a3 (j + 1) c3), ?_, by simp [h2], ?_, fun i hi => ?_, fun i hi hn => ?_⟩, ?_, h.lt, ?_, ?_, h.ge⟩
  · exact heap_setCell_same _ _ _ _ _ _ e
  · rw [Array.getElem?_setIfInBounds, if_pos rfl, if_pos (by omega)]
  · obtain ⟨a', c', e1, e2⟩ := h4 i hi
    refine ⟨a', c', by rw [Array.getElem?_setIfInBounds, if_neg (by omega)]; exact e1, e2.same (Nat.le_refl _) fun q hq1 hq2 => ?_⟩
    rw [heap_setCell_other _ _ _ _ (by simp; omega)]; exact hkp q hq2
  · rw [Array.getElem?_setIfInBounds, if_neg (by omega)]; exact h5 i hi hn
  · exact ownsRow_setCell_below hO (by simpa using h.lt) _
  · simp [World.setCell]; exact Nat.le_trans h.size hG.size
  · have hb : Below w0.heap.size w0 w3 := h.below.trans ⟨hG.os, hG.tape, hG.output, hG.size, fun q hq => hkp q (by have := h.lt; have := h.ge; omega)⟩
    exact hb.setCell (by simpa using h.ge) _
/-- between the rows: the first k rows are done -/
structure NAll (w0 : World) (g n k : Nat) (F : Nat → List Nat) (wr : World) : Prop where
  row : ∃ vals : Array Value, wr.heap[g]? = some (.cells vals 93 (0, 0)) ∧ vals.size = n ∧ (∀ i, i < k → ∃ a' c', vals[i]? = some (.slice a' (F i).length c') ∧ UsG g wr.heap.size wr a' (F i)) ∧ ∀ i, k ≤ i → i < n → vals[i]? = some (.slice none 0 0)
  below : Below w0.heap.size w0 wr
  ge : w0.heap.size ≤ g
theorem NAll.lt {w0 : World} {g n k : Nat} {F : Nat → List Nat} {wr : World} (h : NAll w0 g n k F wr) : g < wr.heap.size := by
  obtain ⟨vals, h1, _⟩ := h.row; exact (Array.getElem?_eq_some_iff.1 h1).1
theorem NAll.mono {w0 : World} {g n k : Nat} {F : Nat → List Nat} {wr w' : World} (h : NAll w0 g n k F wr) (hb : Below wr.heap.size wr w') : NAll w0 g n k F w' := by
  have hlt := h.lt
  obtain ⟨vals, h1, h2, h4, h5⟩ := h.row
  refine ⟨⟨vals, (hb.block g hlt).trans h1, h2, fun i hi => ?_, h5⟩, fin h.below hb, h.ge⟩
  obtain ⟨a', c', e1, e2⟩ := h4 i hi
  exact ⟨a', c', e1, e2.same hb.size fun k _ hk => hb.block k hk⟩
theorem NAll.skip {w0 : World} {g n k : Nat} {F : Nat → List Nat} {wr : World} (h : NAll w0 g n k F wr) (hk : k < n) (hF : F k = []) : NAll w0 g n (k + 1) F wr := by
  obtain ⟨vals, h1, h2, h4, h5⟩ := h.row
  refine ⟨⟨vals, h1, h2, fun i hi => ?_, fun i hi hn => h5 i (by omega) hn⟩, h.below, h.ge⟩
  by_cases e : i = k
  · subst e
    rw [hF]
    exact ⟨none, 0, h5 i (Nat.le_refl _) hk, by simp, fun h => by simp at h⟩
  · exact h4 i (by omega)
theorem NAll.start {w0 : World} {g n k : Nat} {F : Nat → List Nat} {wr : World} (h : NAll w0 g n k F wr) (hk : k < n) : NRow w0 g n k F wr.heap.size wr none 0 0 [] := by
  have hlt := h.lt
  obtain ⟨vals, h1, h2, h4, h5⟩ := h.row
  exact ⟨⟨vals, h1, h2, h5 k (Nat.le_refl _) hk, h4, fun i hi hn => h5 i (by omega) hn⟩, Own.nil _ _ _ _, hlt, Nat.le_refl _, h.below, h.ge⟩
theorem NRow.done {w0 : World} {g n k : Nat} {F : Nat → List Nat} {Bk : Nat} {wr : World} {a : Option Addr} {c j : Nat} {cells : List Value} (h : NRow w0 g n k F Bk wr a c j cells) (hF : cells = (F k).map (fun x : Nat => Value.int .u64 (x : Int))) (hj : j = (F k).length) (hl : (F k).length ≤ 5864062014805) : NAll w0 g n (k + 1) F wr := by
  obtain ⟨vals, h1, h2, h3, h4, h5⟩ := h.row
  refine ⟨⟨vals, h1, h2, fun i hi => ?_, fun i hi hn => h5 i (by omega) hn⟩, h.below, h.ge⟩
  by_cases e : i = k
  · subst e
    refine ⟨a, c, by rw [← hj]; exact h3, hl, fun h0 => ?_⟩
    rcases h.own.parts with ⟨_, _, h6, _⟩ | ⟨b, cur, rfl, hb, hlt, hg, _⟩
    · omega
    · refine ⟨b, rfl, Nat.lt_of_lt_of_le h.lt hb, hlt, fun q x hx => ?_⟩
      obtain ⟨b2, e2, _, _, e3⟩ := h.own.cell (i := q) (v := .int .u64 (x : Int)) (by rw [hF]; simp [hx])
      cases e2; exact e3
  · obtain ⟨a', c', e1, e2⟩ := h4 i (by omega)
    exact ⟨a', c', e1, e2.same h.size fun _ _ _ => rfl⟩
theorem NAll.fin {w0 : World} {g n : Nat} {F : Nat → List Nat} {wr : World} (h : NAll w0 g n n F wr) (hn : n ≤ 60) : UUs wr (some ⟨g, 0, none⟩) ((List.range n).map F) := by
  have hlt := h.lt
  obtain ⟨vals, h1, h2, h4, h5⟩ := h.row
  refine ⟨fun _ => ⟨g, 0, rfl, hlt, fun i x hx => ?_⟩, by simpa using hn⟩
  have hi : i < n := by have := (List.getElem?_eq_some_iff.1 hx).1; simpa using this
  rw [List.getElem?_map, List.getElem?_range hi] at hx
  simp at hx; subst hx
  obtain ⟨a', c', e1, e2, e3⟩ := h4 i hi
  refine ⟨a', c', by rw [cell_of_cells h1, Nat.zero_add]; exact e1, fun h0 => ?_, e2⟩
  obtain ⟨b, rfl, _, hb, hc⟩ := e3 h0
  exact ⟨b, 0, rfl, hb, fun i x hx => by rw [Nat.zero_add]; exact hc i x hx⟩
theorem made_slices (n : Nat) : (madeCells (Value.slice none 0 0).cells (n * 1)).toList = List.replicate n (.slice none 0 0) := by
  apply List.ext_getElem?
  intro i
  simp only [madeCells, Value.cells, Nat.mul_one]
  by_cases h : i < n
  · simp [h, Nat.mod_one]
  · simp [h]
/-- make([][]uint64, n) -/
theorem wpList_make_UUs {w : World} {ops : Array Oper} {rest : List Oper} {o : Oper} {act : Act} {Qp : Exit → Act → World → Prop} (hgd : o.guard = none) (l c : Operand) (hop : o.op = Op.makeSlice 90 l c) (F : Nat → List Nat)
    (n : Nat) (hl : act.eval l = .int .i64 n) (hc : act.eval c = .int .i64 n) (hn : n ≤ 60)
    (h : ∀ w', NAll w w.heap.size n 0 F w' → wpList Tryd.prog ops Qp rest (act.put o.dst (.slice (some ⟨w.heap.size, 0, none⟩) n n)) w') :
    wpList Tryd.prog ops Qp (o :: rest) act w := by
  obtain ⟨i0, hi, hz0, hz1, hz2⟩ := info_parts Tryd.infoU64s
  refine wpList_make_full w hgd l c 90 hop w.heap.size 93 i0 (.slice none 0 0) 1 Tryd.underlying90 hi hz0 hz1 .i64 .i64 n n n hl hc rfl rfl (by rw [hz2]; omega) (by unfold maxLen; omega) (Nat.le_refl _) ?_
  intro w' h1 h2
  rw [made_slices] at h1
  refine h w' ⟨?_, ⟨h2.os, h2.tape, h2.output, h2.size, fun k hk => h2.block k hk (by simp)⟩, Nat.le_refl _⟩
  have h3 : Own 93 1 w' w.heap.size (some ⟨w.heap.size, 0, none⟩) n n (List.replicate n (.slice none 0 0)) := h1
  rcases h3.parts with ⟨e, _⟩ | ⟨g, cur, e, hb, hlt, hg, hn2, hm, hs, ht⟩
  · cases e
  · cases e
    refine ⟨cur, hg, by omega, fun i hi => by omega, fun i _ hi => ?_⟩
    have e1 : (cur.toList.take (n * 1))[i]? = (List.replicate n (Value.slice none 0 0))[i]? := by rw [ht]
    rw [List.getElem?_take, if_pos (by omega), Array.getElem?_toList, List.getElem?_replicate, if_pos hi] at e1
    exact e1
/-- new rows of sets -/
def NewUUs (w : World) (xs : List (List Nat)) (e : Ending) (w' : World) : Prop := ∃ a c, e = .returned (.slice a xs.length c) ∧ UUs w' a xs ∧ Below w.heap.size w w'
set_option maxHeartbeats 4000000 in
set_option maxRecDepth 100000 in
theorem needs_any (ad : Addr) (a b : Option Addr) (c e : Nat) (l : List Rc) (ch : List Bool) (w : World) (hR : RIn w a b l ch) (hl : ch.length = l.length) (h60 : l.length ≤ 60) (hE : ErrR w ad) :
    Calls Tryd.prog 54 #[.slice a l.length c, .slice b ch.length e] w (NewUUs w (Q.nds l ch)) := by
  have HR := Lib.hid hR
  have HE := Lib.hid hE
  have HL := Lib.hid hl
  have hl3 := hR.bools.len
  clear hR hE hl
  go_enter Tryd.func54, Tryd.ntmps54
  go_wp2_with (at_make; refine wpList_make_UUs rfl (.tmp 11) (.tmp 11) rfl (Q.ndAt l ch) l.length rfl rfl h60 ?_; intro w1 hN1; have HN1 := Lib.hid hN1; clear hN1)
  go_loopw [6, 7, 9, 15] (fun _ _ _ i wr => ∃ k : Nat, k ≤ l.length ∧ i = .int .i64 k ∧ NAll w w.heap.size l.length k (Q.ndAt l ch) wr) (fun _ _ _ i _ => l.length - (intOf i).toNat)
  case atStart => exact ⟨0, by omega, rfl, HN1.out⟩
  case round =>
    obtain ⟨k, hk, rfl, hN⟩ := hrel
    have HN := Lib.hid hN
    have HB := Lib.hid hN.below
    have hz := hN.lt
    clear hN
    by_cases hlt : k < l.length
    · have hltc : k < ch.length := by have := HL.out; omega
      obtain ⟨r, hx⟩ : ∃ x, l[k]? = some x := ⟨l[k], by simp [hlt]⟩
      obtain ⟨y, hy⟩ : ∃ x, ch[k]? = some x := ⟨ch[k], by simp [hltc]⟩
      obtain ⟨bb, off, pa, la, pc, lc, da, dc, ca, cc, fa, fc, rfl, hbl0, ⟨q0, q1, q2, q3, q4, q5, q6, q7, q8, q9, q10, q11, q12⟩, hat⟩ := HR.out.recs.rcAll hx
      have hbl : bb < wr.heap.size := Nat.lt_of_lt_of_le hbl0 HB.out.size
      have t0 := ((bcell HB.out).1 bb (off + k * 13) hbl0).trans q0
      have t1 := ((bcell HB.out).1 bb (off + k * 13 + 1) hbl0).trans q1
      have t2 := ((bcell HB.out).1 bb (off + k * 13 + 2) hbl0).trans q2
      have t3 := ((bcell HB.out).1 bb (off + k * 13 + 3) hbl0).trans q3
      have t4 := ((bcell HB.out).1 bb (off + k * 13 + 4) hbl0).trans q4
      have t5 := ((bcell HB.out).1 bb (off + k * 13 + 5) hbl0).trans q5
      have t6 := ((bcell HB.out).1 bb (off + k * 13 + 6) hbl0).trans q6
      have t7 := ((bcell HB.out).1 bb (off + k * 13 + 7) hbl0).trans q7
      have t8 := ((bcell HB.out).1 bb (off + k * 13 + 8) hbl0).trans q8
      have t9 := ((bcell HB.out).1 bb (off + k * 13 + 9) hbl0).trans q9
      have t10 := ((bcell HB.out).1 bb (off + k * 13 + 10) hbl0).trans q10
      have t11 := ((bcell HB.out).1 bb (off + k * 13 + 11) hbl0).trans q11
      have t12 := ((bcell HB.out).1 bb (off + k * 13 + 12) hbl0).trans q12
      clear q0 q1 q2 q3 q4 q5 q6 q7 q8 q9 q10 q11 q12
      obtain ⟨b2, o2, rfl, hbl2, hcb⟩ := (HR.out.bools.below HB.out).addr (by omega)
      have hcy := hcb k y hy
      have hdl := hat.deps.len
      have HX := Lib.hid hx
      have HY := Lib.hid hy
      have HA := Lib.hid hat
      clear hx hy hcb hat
      cases y
      · go_wp2
        go_roundw
        case rel => exact ⟨k + 1, by omega, by go_num, (HN.out.mono (b1 _ _)).skip hlt (Q.ndAt_off HY.out)⟩
        case measure => simp [intOf]; omega
      · obtain ⟨wo, rfl⟩ : ∃ wo : World, wo = wr := ⟨_, rfl⟩
        go_wp2
        generalize hW : wo.alloc _ = W
        have hNW : NAll w w.heap.size l.length k (Q.ndAt l ch) W := by subst hW; exact HN.out.mono (b1 _ _)
        have hbW : Below wo.heap.size wo W := by subst hW; exact b1 _ _
        have HNR := Lib.hid (hNW.start hlt)
        have HND := Lib.hid (Q.ndAt_on (l := l) (on := ch) HY.out HX.out)
        clear hNW hW hbW t0 t1 t2 t3 t4 t5 t6 t7 t8 t9 t10 t11 t12 hcy
        go_loopw [9, 28] (fun _ i wr => ∃ (j : Nat) (a : Option Addr) (c : Nat) (cells : List Value), j ≤ r.deps.length ∧ i = .int .i64 j ∧ cells = ((Q.ndAt l ch k).take j).map (fun x : Nat => Value.int .u64 (x : Int)) ∧ NRow w w.heap.size l.length k (Q.ndAt l ch) W.heap.size wr a c j cells ∧ Below w.heap.size w wr) (fun _ i _ => r.deps.length - (intOf i).toNat)
        case atStart => exact ⟨0, none, 0, [], by omega, rfl, rfl, HNR.out, HNR.out.below⟩
        case round =>
          obtain ⟨j, aj, cj, cells, hj, rfl, hcells, hNj, hbj⟩ := hrel
          have HNJ := Lib.hid hNj
          have HBJ := Lib.hid hbj
          have HCE := Lib.hid hcells
          clear hNj hbj hcells
          by_cases hlt2 : j < r.deps.length
          · obtain ⟨s, hs⟩ : ∃ x, r.deps[j]? = some x := ⟨r.deps[j], by simp [hlt2]⟩
            obtain ⟨b3, o3, ra, rc, rfl, hbl3, ⟨s0, s1, s2, s3, s4⟩, hsp⟩ := (HA.out.deps.below stays_RSp HBJ.out).cellsSp hs
            have HSP := Lib.hid hsp
            have HS := Lib.hid hs
            clear hs hsp
            go_wp2
            generalize hV : wr.alloc _ = V
            have hbV : Below wr.heap.size wr V := by subst hV; exact b1 _ _
            have v0 : V.cell? ⟨wr.heap.size, 0, none⟩ = some (.string s.chan) := by subst hV; simp
            have v1 : V.cell? ⟨wr.heap.size, 1, none⟩ = some (.string s.name) := by subst hV; simp
            have v2 : V.cell? ⟨wr.heap.size, 2, none⟩ = some (.slice ra s.rows.length rc) := by subst hV; simp
            have v3 : V.cell? ⟨wr.heap.size, 3, none⟩ = some (.string s.build) := by subst hV; simp
            have v4 : V.cell? ⟨wr.heap.size, 4, none⟩ = some (.int .i64 s.num) := by subst hV; simp
            have HNV := Lib.hid (HNJ.out.mono hbV)
            have HBV := Lib.hid (fin HBJ.out hbV)
            have HSV := Lib.hid (HSP.out.below hbV)
            obtain ⟨n0, n1⟩ := HNV.out.cell
            have hmj : Q.mset s l ch < 18446744073709551616 := Q.mset_small (by omega)
            clear hV hbV s0 s1 s2 s3 s4
            go_region_law
              (first
              | (go_simp; go_at_call 57; (with_reducible refine (matching_any s ra rc ad _ _ c e l ch _ (HSV.out.below ((Below.refl _ _).drew)) ((HR.out.below HBV.out).below ((Below.refl _ _).drew)) HL.out h60 ((HE.out.below HBV.out).below ((Below.refl _ _).drew))).mono ?_); rintro e w2 ⟨rfl, hb⟩; have HJ2 := Lib.hid (HNV.out.mono (((Below.refl _ _).drew).trans hb)); obtain ⟨m0, m1⟩ := HJ2.out.cell; have hz2 : w.heap.size < w2.heap.size := (by have := HJ2.out.size; have := HJ2.out.lt; omega); clear hb)
              | (refine step_append1 Tryd.infoU64 rfl rfl (.tmp 37) (.tmp 42) 93 rfl Tryd.underlying93 W.heap.size aj j cj cells rfl (HJ2.out.mono (b1 _ _)).own _ (.int .u64 (Q.mset s l ch : Nat)) rfl ?_ rfl (by omega) (by omega) ((HJ2.out.mono (b1 _ _)).size) ?_; (focus (simp; done)); intro a3 c3 w3 hO3 hG3 hB3; obtain ⟨p0, p1⟩ := (HJ2.out.mono (b1 _ _)).cell3 hG3; have HO3 := Lib.hid hO3; have HG3 := Lib.hid hG3; clear hO3 hG3 hB3))
            all_goals
              go_wp2
              go_roundw
              case rel =>
                have hst := (HJ2.out.mono (b1 _ _)).step hlt HO3.out HG3.out
                refine ⟨j + 1, a3, c3, _, by omega, by go_num, ?_, hst, hst.below⟩
                rw [List.take_add_one, HND.out, List.getElem?_map, HS.out, HCE.out, HND.out]; simp
              case measure => simp [intOf]; omega
          · go_wp2
            go_roundw
            case rel =>
              have e1 : (Q.ndAt l ch k).length = r.deps.length := by rw [HND.out]; simp
              refine ⟨k + 1, by omega, by go_num, HNJ.out.done ?_ (by omega) (by omega)⟩
              rw [HCE.out, List.take_of_length_le (by omega)]
            case measure => simp [intOf]; omega
    · go_wp2
      go_ret
      obtain rfl : k = l.length := by omega
      exact ⟨_, l.length, (by rw [Q.nds_len]; rfl), HN.out.fin h60, HB.out⟩
end Go.Proofs.YtpminhafljlldaaDoor

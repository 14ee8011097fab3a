/- The contract of haversackref23.Rings. -/
import Derived.Test.YtnmcajinaigcjaaGreatDoorORef
import Derived.Test.YtnmcajinaigcjaaGreatDoorQStep
namespace Go.Proofs.YtnmcajinaigcjaaGreatDoor
open Go.RowKit
open Q (It Ver Tm Sp Rc Dm)

/-- a ring that lies in a block of its own comes to stand behind the others -/
theorem Rows.add {w w3 : World} {base : Nat} {ra a3 : Option Addr} {rc c3 g c : Nat} {xs : List Hd} {r : List Nat} {o : Obj} (h : Rows w base ra rc xs) (hr : OwnN w base (some ⟨g, 0, none⟩) c r) (hg1 : ∀ x ∈ xs, x.1 ≠ g) (hg2 : ∀ ad, ra = some ad → ad.block ≠ g)
    (hO : Own 31 1 w3 base a3 c3 (xs.length + 1) (xs.map RowV ++ [.slice (some ⟨g, 0, none⟩) r.length c])) (hg : (w.alloc o).grownBy w3 (Value.slice ra xs.length rc).ownBlock)
    (hat : ∀ ad', a3 = some ad' → (∃ ad, ra = some ad ∧ ad.block = ad'.block) ∨ (w.alloc o).heap.size ≤ ad'.block) : Rows w3 base a3 c3 (xs ++ [(g, c, r)]) := by
  have hsz : (w.alloc o).heap.size = w.heap.size + 1 := by simp
  have hgl : g < w.heap.size := (hr.tag _ rfl).2.1
  have hold : ∀ b, b < w.heap.size → (∀ ad, ra = some ad → ad.block ≠ b) → w3.heap[b]? = w.heap[b]? := fun b hlt hne =>
    (hg.block b (by omega) (row_ne hne)).trans ((b1 w o).block b hlt)
  refine ⟨?_, fun x hx => ?_, fun x hx ad e => ?_, ?_⟩
  · rw [List.length_append, List.map_append]; exact hO
  · rcases List.mem_append.1 hx with h1 | h1
    · exact Own.same (h.row x h1) fun b e => by cases e; exact hold _ (h.lt h1).2 (h.off x h1)
    · simp at h1; subst h1
      exact Own.same hr fun b e => by cases e; exact hold _ hgl hg2
  · rcases List.mem_append.1 hx with h1 | h1
    · rcases hat ad e with ⟨ad0, e1, e2⟩ | h2
      · rw [← e2]; exact h.off x h1 ad0 e1
      · have := (h.lt h1).2; omega
    · simp at h1; subst h1
      rcases hat ad e with ⟨ad0, e1, e2⟩ | h2
      · rw [← e2]; exact hg2 ad0 e1
      · show _ ≠ g; omega
  · rw [List.map_append, List.nodup_append]
    refine ⟨h.nd, by simp, fun a ha b hb e => ?_⟩
    obtain ⟨x, hx, rfl⟩ := List.mem_map.1 ha
    simp at hb; subst hb
    exact hg1 x hx e
/-- the rows read as lists of places, out of the new memory -/
theorem Rows.iv {w : World} {base lo : Nat} {ra : Option Addr} {rc : Nat} {xs : List Hd} (h : Rows w base ra rc xs) (hlo : lo ≤ base) (hl : ∀ x ∈ xs, x.2.2.length ≤ 5864062014805) (hz : xs.length ≤ 5864062014805) : Iv (RS (RS RN 1) 1) lo w.heap.size w [.slice ra (xs.map (·.2.2)).length rc] (xs.map (·.2.2)) := by
  refine Own.iv (cells := xs.map RowV) (by rw [List.length_map]; exact h.hd) ⟨by simp, fun i r hr => ?_⟩ hlo (by simpa using hz)
  rw [List.getElem?_map] at hr
  cases hx : xs[i]? with
  | none => rw [hx] at hr; cases hr
  | some x =>
    rw [hx] at hr
    cases hr
    have hxm := List.mem_of_getElem? hx
    refine ⟨[RowV x], rfl, fun j hj => ?_, (h.row x hxm).iv hlo (hl x hxm)⟩
    obtain rfl : j = 0 := by omega
    simp [hx]
theorem enN_take (l : List Nat) (j : Nat) : (enN l).take j = enN (l.take j) := by simp [enN]
theorem made0N (w : World) : OwnN (w.alloc (Obj.cells #[] 3)) w.heap.size (some ⟨w.heap.size, 0, none⟩) 0 [] :=
  ⟨by simp [enN], .inr ⟨w.heap.size, 0, #[], rfl, Nat.le_refl _, heap_new1 _ _, Nat.le_refl _, by unfold maxLen; omega, by simp, by simp [enN]⟩⟩
theorem made1N (w : World) (k : Nat) : Own 3 1 (w.alloc (Obj.cells #[.int .i64 (k : Int)] 3)) w.heap.size (some ⟨w.heap.size, 0, none⟩) 1 1 [.int .i64 (k : Int)] :=
  ⟨by simp, .inr ⟨w.heap.size, 1, #[.int .i64 (k : Int)], rfl, Nat.le_refl _, heap_new1 _ _, Nat.le_refl _, by unfold maxLen; omega, by simp, by simp⟩⟩
/-- told: those of L, and of the next ring those that are in q -/
def ToldQ (n : Nat) (L : List (List Nat)) (q : List Nat) (T : List Bool) : Prop := T.length = n ∧ ∀ (j : Nat) (b : Bool), T[j]? = some b → (b = true ↔ j ∈ L.flatten ∨ j ∈ q)
theorem O.Told.start {n : Nat} {L : List (List Nat)} {T : List Bool} (h : O.Told n L T) : ToldQ n L [] T := ⟨h.1, fun j b hb => by rw [h.2 j b hb]; simp⟩
theorem ToldQ.put {n m x : Nat} {L : List (List Nat)} {r : List Nat} {T : List Bool} (h : ToldQ n L (r.take m) T) (hx : r[m]? = some x) : ToldQ n L (r.take (m + 1)) (T.set x true) := by
  refine ⟨by rw [List.length_set]; exact h.1, fun j b hb => ?_⟩
  rw [List.take_add_one, hx]
  rw [List.getElem?_set] at hb
  by_cases e : x = j
  · subst e
    rw [if_pos rfl] at hb
    split at hb
    · cases hb; simp
    · cases hb
  · rw [if_neg e] at hb
    rw [h.2 j b hb]
    simp [Ne.symm e]
theorem ToldQ.done {n : Nat} {L : List (List Nat)} {r : List Nat} {T : List Bool} (h : ToldQ n L r T) : O.Told n (L ++ [r]) T := ⟨h.1, fun j b hb => by rw [h.2 j b hb]; simp⟩
theorem told0 (n : Nat) : O.Told n [] (List.replicate n false) := by
  refine ⟨by simp, fun j b hb => ?_⟩
  rw [List.getElem?_replicate] at hb
  split at hb
  · cases hb; simp
  · cases hb
theorem Own.weaken {e k : Nat} {w : World} {base b2 : Nat} {a : Option Addr} {c n : Nat} {cells : List Value} (h : Own e k w base a c n cells) (hb : b2 ≤ base) : Own e k w b2 a c n cells := by
  refine ⟨h.1, ?_⟩
  rcases h.2 with h0 | ⟨g, cap, cur, e, hbg, r⟩
  · exact .inl h0
  · exact .inr ⟨g, cap, cur, e, by omega, r⟩
theorem hd_get {l : List Nat} (h : l ≠ []) : l[0]? = some (O.hd l) := by
  cases l with
  | nil => exact absurd rfl h
  | cons x t => simp [O.hd]
theorem chain_row {ch : Nat → Bool} {nd lt : Nat → Nat → Bool} {n : Nat} {L : List (List Nat)} (h : O.Chain ch nd lt n L) {r : List Nat} (hr : r ∈ L) : r.length ≤ n := by
  obtain ⟨q, hq⟩ := List.getElem?_of_mem hr
  obtain ⟨i, _, rfl, _⟩ := h.nth hq
  exact O.cls_length _ _
set_option maxHeartbeats 2000000 in
theorem rless_q (a : Option Addr) (c : Nat) (l : List Rc) (i j : Nat) (w : World) (hR : Sl RRc 13 w a l) (hi : i < l.length) (hj : j < l.length) :
    Calls Tryz.prog 36 #[.slice a l.length c, .int .i64 (i : Int), .int .i64 (j : Int)] w fun e w' => e = .returned (.bool (O.lt l i j)) ∧ ∃ n, w' = w.drewN n := by
  obtain ⟨r, hr⟩ : ∃ x, l[i]? = some x := ⟨l[i], by simp [hi]⟩
  obtain ⟨q, hq⟩ : ∃ x, l[j]? = some x := ⟨l[j], by simp [hj]⟩
  obtain ⟨bb, off, pa, la, pc, lc, da, dc, ca, cc, fa, fc, e1, hbl, ⟨_, _, t2, _⟩, _⟩ := hR.cellsRc hr
  obtain ⟨bb', off', pa2, la2, pc2, lc2, da2, dc2, ca2, cc2, fa2, fc2, e9, _, ⟨_, _, u2, _⟩, _⟩ := hR.cellsRc hq
  subst e1
  cases e9
  have hlt := O.lt_iff (l := l) (i := i) (j := j)
  rw [O.nm_at hr, O.nm_at hq] at hlt
  obtain ⟨v, hv⟩ : ∃ v, v = O.lt l i j := ⟨_, rfl⟩
  rw [← hv] at hlt ⊢
  have HLT := Lib.hid hlt
  clear hlt hr hq hR hv
  cases h1 : Op.bytesLess r.name.toList q.name.toList
  · cases h2 : (r.name.toList == q.name.toList)
    · go_enter Tryz.func36, Tryz.ntmps36
      go_wp2
      go_quiet (fail)
      go_wp2
      go_ret
      refine ⟨ret_bool ?_, _, rfl⟩
      rw [Bool.eq_iff_iff, HLT.out]
      simp at h2
      simp [Q.less, h1, h2]
    · by_cases h3 : i < j
      · have n1 : decide ((i : Int) < (j : Int)) = true := decide_eq_true (by omega)
        go_enter Tryz.func36, Tryz.ntmps36
        go_wp2
        go_quiet (fail)
        go_wp2
        go_ret
        refine ⟨ret_bool ?_, _, rfl⟩
        rw [Bool.eq_iff_iff, HLT.out]
        simp at h2
        simp [h2, h3]
      · have n1 : decide ((i : Int) < (j : Int)) = false := decide_eq_false (by omega)
        go_enter Tryz.func36, Tryz.ntmps36
        go_wp2
        go_quiet (fail)
        go_wp2
        go_ret
        refine ⟨ret_bool ?_, _, rfl⟩
        rw [Bool.eq_iff_iff, HLT.out]
        simp [Q.less, h1, h3]
  · go_enter Tryz.func36, Tryz.ntmps36
    go_wp2
    go_quiet (fail)
    go_wp2
    go_ret
    refine ⟨ret_bool ?_, _, rfl⟩
    rw [Bool.eq_iff_iff, HLT.out]
    simp [Q.less, h1]
/-- how many rings -/
def outLen (v : Value) : Nat := match v with | .slice _ n _ => n | _ => 0
def RRingsPost (l : List Rc) (ch : List Bool) (w : World) (e : Ending) (w' : World) : Prop :=
  ∃ oa oc L, e = .returned (.slice oa L.length oc) ∧ Ordered l ch L ∧ Iv (RS (RS RN 1) 1) w.heap.size w'.heap.size w' [.slice oa L.length oc] L ∧ Below w.heap.size w w'
set_option maxHeartbeats 16000000 in
set_option maxRecDepth 100000 in
theorem rrings_any (a b : Option Addr) (c e : Nat) (l : List Rc) (ch : List Bool) (w : World) (hR : RIn w a b l ch) (hl : ch.length = l.length) (hm : l.length ≤ 60) :
    Calls Tryz.prog 11 #[.slice a l.length c, .slice b ch.length e] w (RRingsPost l ch w) := by
  have HR := Lib.hid hR
  have HL := Lib.hid hl
  clear hR hl
  go_enter Tryz.func11, Tryz.ntmps11
  go_wp2_with fail
  (with_reducible refine (rcomes_any a b c e l ch _ HR.out HL.out (by omega)).mono ?_)
  rintro e1 wc ⟨xa, xc, gs, rfl, hgl, htb, hbc⟩
  have HGL := Lib.hid hgl
  have HTB := Lib.hid htb
  have HBC := Lib.hid hbc
  have hzc := hbc.size
  clear hgl htb hbc
  go_wp2_with (at_make; refine wpList_make_Bools rfl (.tmp 20) (.tmp 20) rfl wc.heap.size l.length rfl rfl (by omega) (Nat.le_refl _) ?_; intro w1 hown hb1 hlt1; have HT1 := Lib.hid hown; have HB1 := Lib.hid hb1; clear hown hb1)
  have h0 : Own 31 1 (w1.alloc (Obj.cells #[] 31)) (wc.heap.size + 1) (some ⟨w1.heap.size, 0, none⟩) 0 0 [] :=
    ⟨by simp, .inr ⟨w1.heap.size, 0, #[], rfl, hlt1, heap_new1 _ _, Nat.le_refl _, by unfold maxLen; omega, by simp, by simp⟩⟩
  have H0 := Lib.hid h0
  clear h0
  go_loopw [7] (fun s7 wr => ∃ (xs : List Hd) (oa : Option Addr) (oc : Nat) (T : List Bool), s7 = .slice oa xs.length oc ∧ OwnB wr wc.heap.size (some ⟨wc.heap.size, 0, none⟩) l.length T ∧ O.Told l.length (xs.map (·.2.2)) T ∧ O.Chain (O.chB ch) (O.ndB l ch) (O.lt l) l.length (xs.map (·.2.2)) ∧ Rows wr (wc.heap.size + 1) oa oc xs ∧ Below wc.heap.size wc wr) (fun s7 _ => l.length + 1 - outLen s7)
  case atStart => exact ⟨[], _, _, _, rfl, HT1.out.below (b1 _ _), told0 _, O.Chain.nil, ⟨H0.out, by simp, by simp, by simp⟩, HB1.out.alloc (Nat.le_of_lt hlt1) _⟩
  case round =>
    obtain ⟨xs, oa, oc, T, rfl, hto, htd, hcn, hrw, hbr⟩ := hrel
    rename World => W0
    have hxl : xs.length ≤ l.length := by
      have h1 : ∀ L : List (List Nat), (∀ r ∈ L, r ≠ []) → L.length ≤ L.flatten.length := by
        intro L
        induction L with
        | nil => simp
        | cons r L ih =>
          intro h
          have := ih fun r hr => h r (by simp [hr])
          have := List.length_pos_iff.2 (h r (by simp))
          rw [List.flatten_cons, List.length_append, List.length_cons]; omega
      have h2 := h1 (xs.map (·.2.2)) fun r hr => by
        obtain ⟨q, hq⟩ := List.getElem?_of_mem hr
        exact (hcn.nth hq).ne
      rw [List.length_map] at h2
      have := hcn.len; omega
    have HTO := Lib.hid hto
    have HTD := Lib.hid htd
    have HCN := Lib.hid hcn
    have HRW := Lib.hid hrw
    have HBR := Lib.hid hbr
    have hz0 : wc.heap.size < W0.heap.size := hto.blk.2
    have HHND := Lib.hid (O.hnd l ch)
    have HNB := Lib.hid (made0N W0)
    clear hto htd hcn hrw hbr
    go_wp2
    go_loopw [8, 26] (fun s8 ii wr => ∃ (i : Nat) (best : List Nat) (bg bc : Nat), i ≤ l.length ∧ ii = .int .i64 i ∧ s8 = .slice (some ⟨bg, 0, none⟩) best.length bc ∧ OwnN wr W0.heap.size (some ⟨bg, 0, none⟩) bc best ∧ O.BestTo (O.chB ch) (O.ndB l ch) (O.lt l) l.length (xs.map (·.2.2)) i best ∧ Below W0.heap.size W0 wr) (fun _ ii _ => l.length - (intOf ii).toNat)
    case atStart => exact ⟨0, [], _, _, Nat.zero_le _, rfl, rfl, HNB.out, O.BestTo.start _, b1 _ _⟩
    case round =>
      obtain ⟨i, best, bg, bc, hil, rfl, rfl, hbo, hbt, hbr⟩ := hrel
      rename World => W1
      have HBO := Lib.hid hbo
      have HBT := Lib.hid hbt
      have HB01 := Lib.hid hbr
      have HBC1 := Lib.hid (fin HBR.out hbr)
      have hz1 := hbr.size
      have hbgl : bg < W1.heap.size := (hbo.tag _ rfl).2.1
      clear hbo hbt hbr
      by_cases hli : i < l.length
      · have hic : i < ch.length := by have := HL.out; omega
        obtain ⟨y, hy⟩ : ∃ y, ch[i]? = some y := ⟨ch[i], by simp [hic]⟩
        obtain ⟨b2, o2, rfl, hbl2, hcb⟩ := HR.out.bools.addr (by omega)
        have hblc : b2 < wc.heap.size := Nat.lt_of_lt_of_le hbl2 HBC.out.size
        have HCB := Lib.hid (fun (i : Nat) (z : Bool) (h : ch[i]? = some z) => (HBC.out.cell (p := ⟨b2, o2 + i, none⟩) hbl2).trans (hcb i z h))
        have hcy := (HBC1.out.cell (p := ⟨b2, o2 + i, none⟩) hblc).trans (HCB.out i y hy)
        have hbl3 : b2 < W1.heap.size := by omega
        have HY := Lib.hid hy
        clear hy hcb
        cases y
        · go_wp2
          go_roundw
          case rel => exact ⟨i + 1, best, bg, bc, by omega, by go_num, rfl, HBO.out, HBT.out.skip (fun h => by have h2 := h.2.1; rw [O.chB_get HY.out] at h2; cases h2), HB01.out⟩
          case measure => simp [intOf]; omega
        · have hTl : i < T.length := by rw [HTD.out.1]; exact hli
          obtain ⟨t, ht⟩ : ∃ t, T[i]? = some t := ⟨T[i], by simp [hTl]⟩
          have htc := (HTO.out.below HB01.out).cell ht
          have hti := HTD.out.2 i t ht
          have HTI := Lib.hid hti
          clear ht hti
          cases t
          case true =>
            go_wp2
            go_roundw
            case rel => exact ⟨i + 1, best, bg, bc, by omega, by go_num, rfl, HBO.out, HBT.out.skip (fun h => h.2.2.1 (HTI.out.1 rfl)), HB01.out⟩
            case measure => simp [intOf]; omega
          case false =>
            have HNR := Lib.hid (made0N W1)
            go_wp2
            clear htc hcy
            go_loopw [10, 11, 43] (fun s10 s11 kk wr => ∃ (k rg rc : Nat), k ≤ l.length ∧ kk = .int .i64 k ∧ s10 = .slice (some ⟨rg, 0, none⟩) (O.cls (O.chB ch) (O.ndB l ch) (O.lt l) k i).length rc ∧ s11 = .bool (O.rdyTo (O.chB ch) (O.ndB l ch) T i k) ∧ OwnN wr W1.heap.size (some ⟨rg, 0, none⟩) rc (O.cls (O.chB ch) (O.ndB l ch) (O.lt l) k i) ∧ Below W1.heap.size W1 wr) (fun _ _ kk _ => l.length - (intOf kk).toNat)
            case atStart => exact ⟨0, _, _, Nat.zero_le _, rfl, by rw [O.cls_zero]; rfl, rfl, by rw [O.cls_zero]; exact HNR.out, b1 _ _⟩
            case round =>
              obtain ⟨k, g, rc, hkl, rfl, rfl, rfl, hro, hbr⟩ := hrel
              rename World => W2
              have hrl := O.cls_length (ch := O.chB ch) (nd := O.ndB l ch) (lt := O.lt l) k i
              have HRO := Lib.hid hro
              have HB12 := Lib.hid hbr
              have HBC2 := Lib.hid (fin HBC1.out hbr)
              have hz2 := hbr.size
              have hTB2 := HTB.out.below HBC2.out
              have HTB2 := Lib.hid hTB2
              clear hro hbr hTB2
              by_cases hlk : k < l.length
              · have hkc : k < ch.length := by have := HL.out; omega
                obtain ⟨yk, hyk⟩ : ∃ y, ch[k]? = some y := ⟨ch[k], by simp [hkc]⟩
                have hck := (HBC2.out.cell (p := ⟨b2, o2 + k, none⟩) hblc).trans (HCB.out k yk hyk)
                have hbl4 : b2 < W2.heap.size := by omega
                have hTl2 : k < T.length := by rw [HTD.out.1]; exact hlk
                obtain ⟨t, ht⟩ : ∃ t, T[k]? = some t := ⟨T[k], by simp [hTl2]⟩
                have htc := ((HTO.out.below HB01.out).below HB12.out).cell ht
                have htg : T.getD k false = t := by rw [List.getD_eq_getElem?_getD, ht]; rfl
                obtain ⟨gi, hgi⟩ : ∃ g, gs[i]? = some g := ⟨gs[i]'(by rw [HGL.out]; exact hli), by simp⟩
                obtain ⟨gk, hgk⟩ : ∃ g, gs[k]? = some g := ⟨gs[k]'(by rw [HGL.out]; exact hlk), by simp⟩
                obtain ⟨xb, rfl, hxb, _, _, hci⟩ := HTB2.out.cell hgi
                obtain ⟨xb2, e9, _, _, _, hckk⟩ := HTB2.out.cell hgk
                cases e9
                obtain ⟨hb1', _, hgil, _⟩ := HTB2.out.bit hgi hlk
                obtain ⟨hb2', _, hgkl, _⟩ := HTB2.out.bit hgk hli
                obtain ⟨ring, hring⟩ : ∃ r, O.cls (O.chB ch) (O.ndB l ch) (O.lt l) k i = r := ⟨_, rfl⟩
                obtain ⟨rd, hrd⟩ : ∃ r, O.rdyTo (O.chB ch) (O.ndB l ch) T i k = r := ⟨_, rfl⟩
                obtain ⟨p1, hp1⟩ : ∃ p, O.comes (O.ndB l ch) i k = p := ⟨_, rfl⟩
                obtain ⟨p2, hp2⟩ : ∃ p, O.comes (O.ndB l ch) k i = p := ⟨_, rfl⟩
                have hrk := O.rdyTo_succ (ch := O.chB ch) (nd := O.ndB l ch) T i k
                rw [hrd, hp1, hp2, O.chB_get hyk, htg] at hrk
                have hsk : (O.chB ch k && O.same (O.ndB l ch) i k) = (yk && (p1 && p2)) := by rw [O.same_comes, hp1, hp2, O.chB_get hyk]
                rw [hp1] at hb1'
                rw [hp2] at hb2'
                rw [hring] at hrl ⊢
                rw [hrd]
                have hro2 := HRO.out
                rw [hring] at hro2
                have HRO2 := Lib.hid hro2
                have HRING := Lib.hid hring
                have HRK := Lib.hid hrk
                have HSK := Lib.hid hsk
                clear hring hrd hp1 hp2 hrk hsk hro2 HRO hyk ht htg hgi hgk
                have same : (yk && (p1 && p2)) = false → O.cls (O.chB ch) (O.ndB l ch) (O.lt l) (k + 1) i = ring := fun h => by rw [O.cls_snoc (by rw [HSK.out]; exact h)]; exact HRING.out
                have HSAME := Lib.hid same
                clear same
                cases p1
                · go_wp2
                  go_roundw
                  case rel => exact ⟨k + 1, g, rc, by omega, by go_num, by rw [HSAME.out (by simp)], by rw [HRK.out]; simp, by rw [HSAME.out (by simp)]; exact HRO2.out, HB12.out⟩
                  case measure => simp [intOf]; omega
                · cases yk
                  · go_wp2
                    go_roundw
                    case rel => exact ⟨k + 1, g, rc, by omega, by go_num, by rw [HSAME.out rfl], by rw [HRK.out]; simp, by rw [HSAME.out rfl]; exact HRO2.out, HB12.out⟩
                    case measure => simp [intOf]; omega
                  · cases p2
                    · cases rd
                      · go_wp2
                        go_roundw
                        case rel => exact ⟨k + 1, g, rc, by omega, by go_num, by rw [HSAME.out rfl], by rw [HRK.out]; rfl, by rw [HSAME.out rfl]; exact HRO2.out, HB12.out⟩
                        case measure => simp [intOf]; omega
                      · go_wp2
                        go_roundw
                        case rel => exact ⟨k + 1, g, rc, by omega, by go_num, by rw [HSAME.out rfl], by rw [HRK.out]; simp, by rw [HSAME.out rfl]; exact HRO2.out, HB12.out⟩
                        case measure => simp [intOf]; omega
                    · have hrk2 : O.rdyTo (O.chB ch) (O.ndB l ch) T i (k + 1) = rd := by rw [HRK.out]; simp
                      have hsk2 : (O.chB ch k && O.same (O.ndB l ch) i k) = true := HSK.out
                      have HRK := Lib.hid hrk2
                      have HSK := Lib.hid hsk2
                      have HRIN := Lib.hid (fun (x : Nat) (hx : x ∈ ring) => (O.mem_cls.1 (by rw [HRING.out]; exact hx : x ∈ O.cls (O.chB ch) (O.ndB l ch) (O.lt l) k i)).1)
                      have HBC02 := Lib.hid (fin HBC.out HBC2.out)
                      clear hrk2 hsk2
                      go_wp2
                      clear hb1' hb2' hck htc hci hckk
                      go_loopw [13] (fun jj wr => ∃ j : Nat, j ≤ ring.length ∧ jj = .int .i64 j ∧ (∀ x ∈ ring.take j, O.lt l x k = true) ∧ Below W2.heap.size W2 wr) (fun jj _ => ring.length - (intOf jj).toNat)
                      case atStart => exact ⟨0, Nat.zero_le _, rfl, fun x h => by simp at h, Below.refl _ _⟩
                      case round =>
                        obtain ⟨j, hj, rfl, hjt, hbr⟩ := hrel
                        rename World => W3
                        have HJT := Lib.hid hjt
                        have HB23 := Lib.hid hbr
                        have HB13 := Lib.hid (fin HB12.out hbr)
                        have HRO3 := Lib.hid (HRO2.out.below hbr)
                        have HBC03 := Lib.hid (fin HBC02.out hbr)
                        clear hjt hbr
                        by_cases hlj : j < ring.length
                        · obtain ⟨x, hx⟩ : ∃ x, ring[j]? = some x := ⟨ring[j], by simp [hlj]⟩
                          have hxl2 : x < l.length := by have := HRIN.out x (List.mem_of_getElem? hx); omega
                          obtain ⟨gq, eq, hgl3, _, hxc⟩ := Own.cell HRO3.out (enN_get hx)
                          cases eq
                          have HX := Lib.hid hx
                          have HLS := Lib.hid (rless_any a c l x k W3 (HR.out.below HBC03.out).recs hxl2 hlk)
                          clear hx
                          obtain ⟨v, hv⟩ : ∃ v, O.lt l x k = v := ⟨_, rfl⟩
                          have HV := Lib.hid hv
                          clear hv
                          go_wp2_with fail
                          (with_reducible refine HLS.out.mono ?_)
                          rintro e1 w6 ⟨rfl, hb6⟩
                          rw [HV.out]
                          have HB36 := Lib.hid (fin HB23.out hb6)
                          have HB16 := Lib.hid (fin HB13.out hb6)
                          have HRO6 := Lib.hid (HRO3.out.below hb6)
                          clear hb6 hxc
                          cases v
                          · have HSPOT := Lib.hid (O.spot_at (lt := O.lt l) (k := k) hj HJT.out (fun y hy => by rw [HX.out] at hy; cases hy; exact HV.out))
                            have hcap := (Own.cap HRO6.out).1
                            have hglt := (HRO6.out.tag _ rfl).2.1
                            have hglt : g < w6.heap.size := hglt
                            obtain ⟨off, hA, hsrc⟩ : ∃ off, (if rc = j then some (⟨g, 0, none⟩ : Addr) else some ⟨g, j, none⟩) = some ⟨g, off, none⟩ ∧ ∀ (i y : Nat), (ring.drop j)[i]? = some y → w6.cell? ⟨g, off + i, none⟩ = some (.int .i64 (y : Int)) := by
                              by_cases h : rc = j
                              · refine ⟨0, by simp [h], fun i y hy => ?_⟩
                                rw [List.drop_eq_nil_of_le (by omega)] at hy; simp at hy
                              · refine ⟨j, by simp [h], fun i y hy => ?_⟩
                                rw [List.getElem?_drop] at hy
                                obtain ⟨g', e, _, _, h4⟩ := Own.cell HRO6.out (enN_get hy)
                                cases e; exact h4
                            have hdr : Sl RN 1 w6 (some ⟨g, off, none⟩) (ring.drop j) := ⟨fun _ => ⟨g, off, rfl, hglt, fun i y hy => ⟨[.int .i64 (y : Int)], rfl, fun q hq => by obtain rfl : q = 0 := (by omega); simpa using hsrc i y hy, rfl⟩⟩, by rw [List.length_drop]; omega⟩
                            have hfr : Own 3 1 w6 W1.heap.size (some ⟨g, 0, none⟩) rc j (enN (ring.take j)) := by
                              have := Own.front HRO6.out hj
                              rwa [enN_take] at this
                            have hdl : (ring.drop j).length = ring.length - j := List.length_drop
                            have HDR := Lib.hid hdr
                            have HFR := Lib.hid hfr
                            have HDL := Lib.hid hdl
                            have hz6 : W1.heap.size ≤ w6.heap.size := HB16.out.size
                            have hj1 : (j : Int) ≤ (ring.length : Int) := by omega
                            have hj2 : j ≤ rc := by omega
                            have hj3 : (0 : Int) ≤ (j : Int) := by omega
                            have hj4 : (j : Int) ≤ (rc : Int) := by omega
                            have hins : ring.take j ++ k :: ring.drop j = O.cls (O.chB ch) (O.ndB l ch) (O.lt l) (k + 1) i := by
                              rw [O.cls_insert (O.ord l) HSK.out, HRING.out, ← HSPOT.out]
                            have HINS := Lib.hid hins
                            clear hdr hfr hsrc hdl hins
                            go_wp2
                            go_region_law
                              (first
                              | (refine step_append_flat (R := RN) Tryz.infoInt rfl (by decide) rfl (.tmp 95) (.tmp 98) 31 rfl Tryz.underlying31 w6.heap.size (some ⟨w6.heap.size, 0, none⟩) 1 1 [.int .i64 (k : Int)] (by first | rfl | simp [Act.eval, Act.put]) (by first | exact made1N w6.drew k | exact made1N w6 k) (some ⟨g, off, none⟩) (ring.length - j) (rc - j) (ring.drop j) (by first | rfl | simp [Act.eval, Act.put]) HDL.out (by first | exact HDR.out.below stays_RN (((Below.refl _ _).drew).alloc (Nat.le_refl _) _) | exact HDR.out.below stays_RN ((b1 _ _))) (RN.ones _) (fun e => by cases e) (by omega) (by omega) (by simp) ?_; intro a1 c1 w7 cells1 hO1 hF1 hG1 hB1; have hE1 := hF1.rn; subst hE1; have hb67 : Below w6.heap.size w6 w7 := (((Below.refl _ _).drew).alloc (Nat.le_refl _) _).trans (hB1.mono (by simp)); have HO1 := Lib.hid hO1; have HB67 := Lib.hid hb67; have hz7 := hb67.size; have hcc1 := (Own.cap hO1).2; clear hO1 hF1 hG1 hB1 hb67)
                              | (refine step_append_flat (R := RN) Tryz.infoInt rfl (by decide) rfl (.tmp 93) (.tmp 99) 31 rfl Tryz.underlying31 W1.heap.size (some ⟨g, 0, none⟩) j rc (enN (ring.take j)) (by first | rfl | simp [Act.eval, Act.put]) (HFR.out.below HB67.out) a1 (1 + (ring.length - j)) c1 (k :: ring.drop j) (by first | rfl | simp [Act.eval, Act.put]) (by rw [List.length_cons, HDL.out]; omega) (by have h9 := HO1.out; exact Own.sl (e := 3) (base := w6.heap.size) (c := c1) (cells := enN (k :: ring.drop j)) (by rw [List.length_cons, HDL.out, Nat.add_comm]; exact h9) (flatN _ _) (by rw [List.length_cons, HDL.out]; omega)) (RN.ones _) hcc1 (by omega) (by omega) (by omega) ?_; intro a2 c2 w8 cells2 hO2 hF2 hG2 hB2; have hE2 := hF2.rn; subst hE2; have HO2 := Lib.hid hO2; have HB68 := Lib.hid ((HB67.out.mono hz6).trans hB2); clear hO2 hF2 hG2 hB2))
                            all_goals
                              have hlen : j + (1 + (ring.length - j)) = (O.cls (O.chB ch) (O.ndB l ch) (O.lt l) (k + 1) i).length := by
                                rw [← HINS.out, List.length_append, List.length_take, List.length_cons, HDL.out]; omega
                              have hO8 : OwnN w8 W1.heap.size a2 c2 (O.cls (O.chB ch) (O.ndB l ch) (O.lt l) (k + 1) i) := by
                                have h9 := HO2.out
                                rw [hlen, ← enN_append, HINS.out] at h9; exact h9
                              obtain ⟨g2, e2, _, hg2, _⟩ : ∃ g2, a2 = some ⟨g2, 0, none⟩ ∧ g2 < w8.heap.size ∧ W1.heap.size ≤ g2 ∧ True := by
                                rcases hO8.parts with ⟨_, _, h9, _⟩ | ⟨g2, cur, e, h2, h3, _⟩
                                · exfalso; omega
                                · exact ⟨g2, e, h3, h2, trivial⟩
                              subst e2
                              have HO8 := Lib.hid hO8
                              have HLEN := Lib.hid hlen
                              clear hO8 hlen
                              go_wp2
                              go_roundw
                              case rel => exact ⟨k + 1, g2, c2, by omega, by go_num, by rw [HLEN.out], by rw [HRK.out], HO8.out, HB16.out.trans HB68.out⟩
                              case measure => simp [intOf]; omega
                          · go_wp2
                            go_roundw
                            case rel =>
                              refine ⟨j + 1, by omega, by go_num, fun y hy => ?_, HB36.out⟩
                              rw [List.take_add_one, HX.out] at hy
                              rcases List.mem_append.1 hy with h1 | h1
                              · exact HJT.out y h1
                              · simp at h1; subst h1; exact HV.out
                            case measure => simp [intOf]; omega
                        · have HSPOT := Lib.hid (O.spot_at (lt := O.lt l) (k := k) hj HJT.out (fun y hy => by rw [List.getElem?_eq_none (by omega)] at hy; cases hy))
                          have HB16 := HB13
                          have HRO6 := HRO3
                          obtain ⟨w6, hw6⟩ : ∃ x, x = W3 := ⟨_, rfl⟩
                          subst hw6
                          have nlt : decide ((j : Int) < (ring.length : Int)) = false := decide_eq_false (by omega)
                          have nlt2 : ¬ ((j : Int) < (ring.length : Int)) := by omega
                          have hcap := (Own.cap HRO6.out).1
                          have hglt := (HRO6.out.tag _ rfl).2.1
                          have hglt : g < w6.heap.size := hglt
                          obtain ⟨off, hA, hsrc⟩ : ∃ off, (if rc = j then some (⟨g, 0, none⟩ : Addr) else some ⟨g, j, none⟩) = some ⟨g, off, none⟩ ∧ ∀ (i y : Nat), (ring.drop j)[i]? = some y → w6.cell? ⟨g, off + i, none⟩ = some (.int .i64 (y : Int)) := by
                            by_cases h : rc = j
                            · refine ⟨0, by simp [h], fun i y hy => ?_⟩
                              rw [List.drop_eq_nil_of_le (by omega)] at hy; simp at hy
                            · refine ⟨j, by simp [h], fun i y hy => ?_⟩
                              rw [List.getElem?_drop] at hy
                              obtain ⟨g', e, _, _, h4⟩ := Own.cell HRO6.out (enN_get hy)
                              cases e; exact h4
                          have hdr : Sl RN 1 w6 (some ⟨g, off, none⟩) (ring.drop j) := ⟨fun _ => ⟨g, off, rfl, hglt, fun i y hy => ⟨[.int .i64 (y : Int)], rfl, fun q hq => by obtain rfl : q = 0 := (by omega); simpa using hsrc i y hy, rfl⟩⟩, by rw [List.length_drop]; omega⟩
                          have hfr : Own 3 1 w6 W1.heap.size (some ⟨g, 0, none⟩) rc j (enN (ring.take j)) := by
                            have := Own.front HRO6.out hj
                            rwa [enN_take] at this
                          have hdl : (ring.drop j).length = ring.length - j := List.length_drop
                          have HDR := Lib.hid hdr
                          have HFR := Lib.hid hfr
                          have HDL := Lib.hid hdl
                          have hz6 : W1.heap.size ≤ w6.heap.size := HB16.out.size
                          have hj1 : (j : Int) ≤ (ring.length : Int) := by omega
                          have hj2 : j ≤ rc := by omega
                          have hj3 : (0 : Int) ≤ (j : Int) := by omega
                          have hj4 : (j : Int) ≤ (rc : Int) := by omega
                          have hins : ring.take j ++ k :: ring.drop j = O.cls (O.chB ch) (O.ndB l ch) (O.lt l) (k + 1) i := by
                            rw [O.cls_insert (O.ord l) HSK.out, HRING.out, ← HSPOT.out]
                          have HINS := Lib.hid hins
                          clear hdr hfr hsrc hdl hins
                          go_wp2
                          go_region_law
                            (first
                            | (refine step_append_flat (R := RN) Tryz.infoInt rfl (by decide) rfl (.tmp 95) (.tmp 98) 31 rfl Tryz.underlying31 w6.heap.size (some ⟨w6.heap.size, 0, none⟩) 1 1 [.int .i64 (k : Int)] (by first | rfl | simp [Act.eval, Act.put]) (by first | exact made1N w6.drew k | exact made1N w6 k) (some ⟨g, off, none⟩) (ring.length - j) (rc - j) (ring.drop j) (by first | rfl | simp [Act.eval, Act.put]) HDL.out (by first | exact HDR.out.below stays_RN (((Below.refl _ _).drew).alloc (Nat.le_refl _) _) | exact HDR.out.below stays_RN ((b1 _ _))) (RN.ones _) (fun e => by cases e) (by omega) (by omega) (by simp) ?_; intro a1 c1 w7 cells1 hO1 hF1 hG1 hB1; have hE1 := hF1.rn; subst hE1; have hb67 : Below w6.heap.size w6 w7 := (((Below.refl _ _).drew).alloc (Nat.le_refl _) _).trans (hB1.mono (by simp)); have HO1 := Lib.hid hO1; have HB67 := Lib.hid hb67; have hz7 := hb67.size; have hcc1 := (Own.cap hO1).2; clear hO1 hF1 hG1 hB1 hb67)
                            | (refine step_append_flat (R := RN) Tryz.infoInt rfl (by decide) rfl (.tmp 93) (.tmp 99) 31 rfl Tryz.underlying31 W1.heap.size (some ⟨g, 0, none⟩) j rc (enN (ring.take j)) (by first | rfl | simp [Act.eval, Act.put]) (HFR.out.below HB67.out) a1 (1 + (ring.length - j)) c1 (k :: ring.drop j) (by first | rfl | simp [Act.eval, Act.put]) (by rw [List.length_cons, HDL.out]; omega) (by have h9 := HO1.out; exact Own.sl (e := 3) (base := w6.heap.size) (c := c1) (cells := enN (k :: ring.drop j)) (by rw [List.length_cons, HDL.out, Nat.add_comm]; exact h9) (flatN _ _) (by rw [List.length_cons, HDL.out]; omega)) (RN.ones _) hcc1 (by omega) (by omega) (by omega) ?_; intro a2 c2 w8 cells2 hO2 hF2 hG2 hB2; have hE2 := hF2.rn; subst hE2; have HO2 := Lib.hid hO2; have HB68 := Lib.hid ((HB67.out.mono hz6).trans hB2); clear hO2 hF2 hG2 hB2))
                          all_goals
                            have hlen : j + (1 + (ring.length - j)) = (O.cls (O.chB ch) (O.ndB l ch) (O.lt l) (k + 1) i).length := by
                              rw [← HINS.out, List.length_append, List.length_take, List.length_cons, HDL.out]; omega
                            have hO8 : OwnN w8 W1.heap.size a2 c2 (O.cls (O.chB ch) (O.ndB l ch) (O.lt l) (k + 1) i) := by
                              have h9 := HO2.out
                              rw [hlen, ← enN_append, HINS.out] at h9; exact h9
                            obtain ⟨g2, e2, _, hg2, _⟩ : ∃ g2, a2 = some ⟨g2, 0, none⟩ ∧ g2 < w8.heap.size ∧ W1.heap.size ≤ g2 ∧ True := by
                              rcases hO8.parts with ⟨_, _, h9, _⟩ | ⟨g2, cur, e, h2, h3, _⟩
                              · exfalso; omega
                              · exact ⟨g2, e, h3, h2, trivial⟩
                            subst e2
                            have HO8 := Lib.hid hO8
                            have HLEN := Lib.hid hlen
                            clear hO8 hlen
                            go_wp2
                            go_roundw
                            case rel => exact ⟨k + 1, g2, c2, by omega, by go_num, by rw [HLEN.out], by rw [HRK.out], HO8.out, HB16.out.trans HB68.out⟩
                            case measure => simp [intOf]; omega
              · obtain rfl : k = l.length := by omega
                have hcx : O.chB ch i = true := O.chB_get HY.out
                have hrdy := O.rdyTo_iff HHND.out HTD.out i
                have hni : i ∉ (xs.map (·.2.2)).flatten := fun h => by have := HTI.out.2 h; cases this
                have hne := O.cls_ne (nd := O.ndB l ch) (lt := O.lt l) hli hcx
                have hord := O.ord l
                have htk := fun (hc : O.Ready (O.ndB l ch) (xs.map (·.2.2)) i) => HBT.out.take hord ⟨hli, hcx, hni, hc⟩
                have hst := fun (h1 : best ≠ []) => HBT.out.stay (i := i) h1
                have hsk := fun (hc : ¬ O.Ready (O.ndB l ch) (xs.map (·.2.2)) i) => HBT.out.skip (i := i) fun h => hc h.2.2.2
                have hB02 := fin HB01.out HB12.out
                have hbo2 := HBO.out.below HB12.out
                have hro2 := Own.weaken HRO.out hz1
                obtain ⟨ring, hring⟩ : ∃ r, O.cls (O.chB ch) (O.ndB l ch) (O.lt l) l.length i = r := ⟨_, rfl⟩
                obtain ⟨rd, hrd⟩ : ∃ r, O.rdyTo (O.chB ch) (O.ndB l ch) T i l.length = r := ⟨_, rfl⟩
                rw [hrd] at hrdy
                rw [hring] at hrl hne htk hst hro2
                rw [hring, hrd]
                have hrx := O.cls_hd (nd := O.ndB l ch) (lt := O.lt l) hli hcx
                rw [hring] at hrx
                have HRDY := Lib.hid hrdy
                have HTK := Lib.hid htk
                have HST := Lib.hid hst
                have HSKP := Lib.hid hsk
                have HB02 := Lib.hid hB02
                have HBO2 := Lib.hid hbo2
                have HRO2 := Lib.hid hro2
                have hrpos := List.length_pos_iff.2 hne
                obtain ⟨_, e9, hgl2, _, hrc0⟩ := Own.cell hro2 (enN_get (hd_get hne))
                cases e9
                obtain ⟨x0, hx0⟩ : ∃ x, O.hd ring = x := ⟨_, rfl⟩
                rw [hx0] at hrc0 hrx
                have hxl0 := hrx.1
                have HX0 := Lib.hid hx0
                clear hrdy hni htk hst hsk hB02 hbo2 hro2 hring hrd HRO hcx hord hrx hx0
                have HDR := Lib.hid (fun n => (⟨rfl, rfl, rfl, Nat.le_refl _, fun _ _ => rfl⟩ : Below W2.heap.size W2 (W2.drewN n)))
                cases rd
                · go_wp2_with fail
                  go_quiet (fail)
                  go_wp2
                  go_roundw
                  case rel => exact ⟨i + 1, best, bg, bc, by omega, by go_num, rfl, HBO2.out.below (HDR.out _), HSKP.out (fun h => by have := HRDY.out.2 h; cases this), fin HB02.out (HDR.out _)⟩
                  case measure => simp [intOf]; omega
                · by_cases hb0 : best = []
                  · subst hb0
                    have HTK1 := Lib.hid (HTK.out (HRDY.out.1 rfl) (.inl rfl))
                    go_wp2_with fail
                    go_quiet (fail)
                    go_wp2
                    go_roundw
                    case rel => exact ⟨i + 1, ring, g, rc, by omega, by go_num, rfl, HRO2.out.below (HDR.out _), HTK1.out, fin HB02.out (HDR.out _)⟩
                    case measure => simp [intOf]; omega
                  · have hbpos := List.length_pos_iff.2 hb0
                    have hbx : O.hd best < l.length := by
                      rcases HBT.out with ⟨h, _⟩ | ⟨x, hx, hc, rfl, _⟩
                      · exact absurd h hb0
                      · exact (O.cls_hd hc.1 hc.2.1).1
                    obtain ⟨_, e9, hbl5, _, hbc0⟩ := Own.cell HBO2.out (enN_get (hd_get hb0))
                    cases e9
                    obtain ⟨y0, hy0⟩ : ∃ x, O.hd best = x := ⟨_, rfl⟩
                    rw [hy0] at hbc0 hbx
                    have HY0 := Lib.hid hy0
                    have HNB0 := Lib.hid hb0
                    have nb : ((best.length : Int) == 0) = false := by rw [beq_eq_false_iff_ne]; omega
                    obtain ⟨v, hv⟩ : ∃ v, O.lt l x0 y0 = v := ⟨_, rfl⟩
                    have HV := Lib.hid hv
                    have hls := fun n => rless_q a c l x0 y0 (W2.drewN n) ((HR.out.below (fin HBC.out HBC2.out)).recs.below stays_RRc (HDR.out n)) hxl0 hbx
                    rw [hv] at hls
                    have HLS := Lib.hid hls
                    have HST0 := Lib.hid (fun (hv : v = false) => HST.out HNB0.out (by rw [HX0.out, HY0.out, HV.out]; exact hv))
                    have HTK0 := Lib.hid (fun (hv : v = true) => HTK.out (HRDY.out.1 rfl) (.inr (by rw [HX0.out, HY0.out, HV.out]; exact hv)))
                    clear hy0 hb0 hv hls
                    cases v
                    · go_wp2_with fail
                      go_quiet ((go_at_call 36; exact Calls.quiet_of (HLS.out _)))
                      go_wp2
                      go_roundw
                      case rel => exact ⟨i + 1, best, bg, bc, by omega, by go_num, rfl, HBO2.out.below (HDR.out _), (HST0.out (by trivial)), fin HB02.out (HDR.out _)⟩
                      case measure => simp [intOf]; omega
                    · go_wp2_with fail
                      go_quiet ((go_at_call 36; exact Calls.quiet_of (HLS.out _)))
                      go_wp2
                      go_roundw
                      case rel => exact ⟨i + 1, ring, g, rc, by omega, by go_num, rfl, HRO2.out.below (HDR.out _), (HTK0.out (by trivial)), fin HB02.out (HDR.out _)⟩
                      case measure => simp [intOf]; omega
      · obtain rfl : i = l.length := by omega
        by_cases hb0 : best = []
        · subst hb0
          go_wp2
          go_ret
          exact ⟨oa, oc, xs.map (·.2.2), by rw [List.length_map]; rfl, ⟨HCN.out, HBT.out.done⟩, (HRW.out.below HB01.out).iv (by omega) (fun x hx => Nat.le_trans (chain_row HCN.out (List.mem_map.2 ⟨x, hx, rfl⟩)) (by omega)) (by omega), fin HBC.out HBC1.out⟩
        · have hnx := HBT.out.next hb0
          have hbn := hnx.bd
          have hbl : best.length ≤ l.length := by
            obtain ⟨i, _, rfl, _⟩ := hnx; exact O.cls_length _ _
          have hbpos := List.length_pos_iff.2 hb0
          have nb : ((best.length : Int) == 0) = false := by rw [beq_eq_false_iff_ne]; omega
          have hbgb : W0.heap.size ≤ bg := (HBO.out.tag _ rfl).1
          have HNX := Lib.hid hnx
          have HBN := Lib.hid hbn
          clear hnx hbn hb0
          go_wp2
          clear nb
          go_loopw [126] (fun j wr => ∃ (m : Nat) (T2 : List Bool), m ≤ best.length ∧ j = .int .i64 m ∧ OwnB wr wc.heap.size (some ⟨wc.heap.size, 0, none⟩) l.length T2 ∧ ToldQ l.length (xs.map (·.2.2)) (best.take m) T2 ∧ W1.grownBy wr (some wc.heap.size)) (fun j _ => best.length - (intOf j).toNat)
          case atStart => exact ⟨0, T, Nat.zero_le _, rfl, HTO.out.below HB01.out, by rw [List.take_zero]; exact HTD.out.start, World.grownBy.refl _ _⟩
          case round =>
            obtain ⟨m, T2, hm2, rfl, hob, htq, hgr⟩ := hrel
            rename World => w6
            have HO6 := Lib.hid hob
            have HTQ := Lib.hid htq
            have HG6 := Lib.hid hgr
            have hz6 := hgr.size
            have hbo6 : OwnN w6 W0.heap.size (some ⟨bg, 0, none⟩) bc best := Own.same HBO.out fun b e => by cases e; exact HG6.out.block _ hbgl (fun e => by have := Option.some.inj e; omega)
            have HBO6 := Lib.hid hbo6
            clear hob htq hgr hbo6
            by_cases hlm : m < best.length
            · obtain ⟨x, hx⟩ : ∃ x, best[m]? = some x := ⟨best[m], by simp [hlm]⟩
              have hxl2 : x < l.length := HBN.out x (List.mem_of_getElem? hx)
              obtain ⟨_, e9, hgl6, _, hxc⟩ := Own.cell HBO6.out (enN_get hx)
              cases e9
              have hTl3 : x < T2.length := by rw [HTQ.out.1]; exact hxl2
              obtain ⟨v, hv⟩ : ∃ v, T2[x]? = some v := ⟨T2[x], by simp [hTl3]⟩
              have hcv := HO6.out.cell hv
              have hfv := HO6.out.frozen x
              have HX := Lib.hid hx
              clear hx hv
              go_wp2
              go_roundw
              case rel => exact ⟨m + 1, T2.set x true, by omega, by go_num, HO6.out.stored x true, HTQ.out.put HX.out, HG6.out.andThen (World.ownsRow.stored HO6.out x (.bool true)).2 fun _ e => .inr e⟩
              case measure => simp [intOf]; omega
            · obtain rfl : m = best.length := by omega
              have hb06 : Below wc.heap.size wc w6 := HBC1.out.grown HG6.out (by omega) fun j hj => by have := Option.some.inj hj; omega
              have hrw6 : Rows w6 (wc.heap.size + 1) oa oc xs := HRW.out.keep fun b h1 h2 => (HG6.out.block b (by omega) (fun e => by have := Option.some.inj e; omega)).trans (HB01.out.block b h2)
              have hbo7 : OwnN w6 (wc.heap.size + 1) (some ⟨bg, 0, none⟩) bc best := Own.weaken HBO6.out (by omega)
              have htq := HTQ.out
              rw [List.take_length] at htq
              have htd := htq.done
              have hg1 : ∀ x ∈ xs, x.1 ≠ bg := fun x hx => by have := (HRW.out.lt hx).2; omega
              have hg2 : ∀ ad, oa = some ad → ad.block ≠ bg := fun ad e => by have := (HRW.out.hd.tag ad e).2.1; omega
              have hmp : (xs ++ [(bg, bc, best)]).map (·.2.2) = xs.map (·.2.2) ++ [best] := by simp
              have HB06 := Lib.hid hb06
              have HRW6 := Lib.hid hrw6
              have HBO7 := Lib.hid hbo7
              have HTD2 := Lib.hid htd
              have HG1 := Lib.hid hg1
              have HG2 := Lib.hid hg2
              have HMP := Lib.hid hmp
              clear hb06 hrw6 hbo7 htq htd hg1 hg2 hmp
              go_wp2_with (at_builtin; refine wpList_append_flatAt (R := RV) Tryz.infoInts rfl (by decide) rfl (.tmp 134) (.tmp 136) 26 rfl Tryz.underlying26 (wc.heap.size + 1) oa xs.length oc _ rfl (HRW6.out.hd.below (b1 _ _)) _ _ _ [.slice (some ⟨bg, 0, none⟩) best.length bc] rfl rfl (oneNV (by simp) (.slice (some ⟨bg, 0, none⟩) best.length bc) rfl _) (RV.ones _) (by omega) (by omega) (by simp; omega) ?_; intro a3 c3 w7 cells1 hO7 hF7 hG7 hB7 hat7; have HRN := Lib.hid (Rows.add HRW6.out HBO7.out HG1.out HG2.out (hF7.rv ▸ hO7) hG7 hat7); have HT7 := Lib.hid (show OwnB w7 wc.heap.size (some ⟨wc.heap.size, 0, none⟩) l.length T2 from Own.same (HO6.out.below (b1 _ _)) fun b e => by cases e; exact hB7.block _ (Nat.lt_succ_self _)); have HB7 := Lib.hid ((HB06.out.alloc HB06.out.size _).trans (hB7.mono (Nat.le_succ _))); clear hO7 hF7 hG7 hB7 hat7)
              go_roundw
              case rel => exact ⟨xs ++ [(bg, bc, best)], a3, c3, T2, by rw [List.length_append]; rfl, HT7.out, by rw [HMP.out]; exact HTD2.out, by rw [HMP.out]; exact HCN.out.snoc HNX.out, HRN.out, HB7.out⟩
              case measure => simp [outLen]; omega
end Go.Proofs.YtnmcajinaigcjaaGreatDoor

/- lits.occurrences: the valid clauses, and where each literal is. -/
import Derived.Test.YtdppmmimemmedaaDoorPut
import Derived.Test.YtdppmmimemmedaaDoorNorm
import Derived.Test.YtdppmmimemmedaaDoorLits2
import Derived.Test.YtdppmmimemmedaaDoorClauses
namespace Go.Proofs.YtdppmmimemmedaaDoor
open Go.RowKit Go.Shelf

theorem Tryd.infoRow : (Tryd.prog.info? 27).map (fun i => (i.zero, i.size, i.bytes)) = some (some (.slice none 0 0), 1, 24) := by kernel_rfl

/-- what only answers: the same list, or a new one -/
def OnlyPost (w : World) (a : Option Addr) (zs : List Int) (e : Ending) (w' : World) : Prop :=
  ∃ a' c', e = .returned (.slice a' (M.only zs).length c') ∧ Ints w' a' (M.only zs) ∧ Below w.heap.size w w' ∧ ((a' = a ∧ M.only zs = zs) ∨ ∀ ad, a' = some ad → w.heap.size ≤ ad.block)
theorem only_rd (a : Option Addr) (c : Nat) (zs : List Int) (w : World) (hz : Ints w a zs) :
    Calls Tryd.prog 81 #[.slice a zs.length c] w (OnlyPost w a zs) := by
  have hlen := hz.len
  cases hr : M.right zs
  · go_enter Tryd.func81, Tryd.ntmps81
    go_wp2_with (go_at_call 47; refine (right_any _ _ _ _ hz).mono ?_; rintro e w1 ⟨rfl, hb⟩)
    have HB := Lib.hid hb
    clear hb
    go_loopw [3, 5, 11] (fun v _ i wr => ∃ (k n : Nat) (a' : Option Addr) (c' : Nat), k ≤ zs.length ∧ i = .int .i64 k ∧ v = .slice a' n c' ∧ n = ((zs.take k).filter M.isLit).length ∧ OwnI wr w.heap.size a' c' ((zs.take k).filter M.isLit) ∧ Below w.heap.size w wr) (fun _ _ i _ => zs.length - (intOf i).toNat)
    case atStart => exact ⟨0, 0, none, 0, Nat.zero_le _, rfl, rfl, rfl, OwnI.nil _ _, HB.out⟩
    case round =>
      obtain ⟨k, n, a', c', hk, rfl, rfl, hn, hown, hb⟩ := hrel
      have HN := Lib.hid hn
      have HO := Lib.hid hown
      have HB' := Lib.hid hb
      have hnk : n ≤ k := by rw [hn]; have := List.length_filter_le M.isLit (zs.take k); simp at this; omega
      clear hn hown hb
      by_cases hlt : k < zs.length
      · have hzr := hz.below HB'.out
        obtain ⟨b, off, rfl, hbl, hcl⟩ := hzr.addr (by omega)
        obtain ⟨z, hzk⟩ : ∃ z, zs[k]? = some z := ⟨zs[k], by simp [hlt]⟩
        have hcell := hcl k z hzk
        have HZ := Lib.hid hzk
        have H64 := Lib.hid (hz.wf z (List.mem_of_getElem? hzk))
        clear hcl hzk
        cases hlz : M.isLit z
        · go_wp2_with (go_at_call 64; refine (literal_any _ _).mono ?_; rintro e w' ⟨rfl, rfl⟩)
          go_roundw
          case rel => exact ⟨k + 1, n, a', c', by omega, by go_num, rfl, by rw [M.filter_drop HZ.out hlz]; exact HN.out, by rw [M.filter_drop HZ.out hlz]; exact HO.out, HB'.out⟩
          case measure => simp [intOf]; omega
        · go_wp2_with (first
            | (go_at_call 64; refine (literal_any _ _).mono ?_; rintro e w' ⟨rfl, rfl⟩)
            | (at_builtin; refine wpList_append_Ints rfl (.tmp 17) (.tmp 19) 27 rfl Tryd.underlying27 w.heap.size _ _ _ ((zs.take k).filter M.isLit) rfl HN.out.symm (OwnI.alloc HO.out _) _ _ _ [z] rfl rfl (Ints.one wr z H64.out _) (fun h => by cases h) (by omega) (put_size1 HB'.out) ?_; intro a2 c2 w2 hown2 hg2 hB2; have HB2 := Lib.hid (put_below2 HB'.out hB2); have HO2 := Lib.hid hown2; clear hg2 hown2 hB2))
          go_roundw
          case rel => exact ⟨k + 1, n + 1, a2, c2, by omega, by go_num, rfl, by rw [M.filter_keep HZ.out hlz, List.length_append, ← HN.out]; rfl, by rw [M.filter_keep HZ.out hlz]; exact HO2.out, HB2.out⟩
          case measure => simp [intOf]; omega
      · have hfull : zs.take k = zs := List.take_of_length_le (by omega)
        have hI : Ints wr a' (zs.filter M.isLit) := by
          have := HO.out; rw [hfull] at this
          refine this.ints (fun y hy => hz.wf y (List.mem_filter.1 hy).1) ?_
          have := List.length_filter_le M.isLit zs; omega
        have hnl : n = (zs.filter M.isLit).length := by rw [HN.out, hfull]
        have hsr := sorted_any a' c' (zs.filter M.isLit) wr hI (fun y hy => (List.mem_filter.1 hy).2)
        rw [← hnl] at hsr
        have HS := Lib.hid hsr
        clear hfull hI hnl hsr
        go_wp2_with (go_at_call 80; refine HS.out.mono ?_; rintro e w' ⟨a3, c3, rfl, h1, h2, h3, h4, h5⟩)
        go_ret
        exact ⟨_, _, rfl, h1, HB'.out.trans (h4.mono HB'.out.size), .inr (fun ad e => Nat.le_trans HB'.out.size (h5.new ad e))⟩
  · go_enter Tryd.func81, Tryd.ntmps81
    go_wp2_with (go_at_call 47; refine (right_any _ _ _ _ hz).mono ?_; rintro e w1 ⟨rfl, hb⟩)
    go_ret
    exact ⟨a, c, by rw [M.only_of_right hr]; rfl, by rw [M.only_of_right hr]; exact hz.below hb, hb, .inl ⟨rfl, M.only_of_right hr⟩⟩
/-- a row of clauses in block g; their blocks are in K -/
def VC (K : Nat → Prop) (w : World) (base g : Nat) (cs : List (List Int)) : Prop :=
  ∃ vals : List Value, w.ownsRow base 58 1 (.slice (some ⟨g, 0, none⟩) cs.length cs.length) cs.length vals ∧
    ∀ (i : Nat) (x : List Int), cs[i]? = some x → ∃ a' c', vals[i]? = some (Value.slice a' x.length c') ∧ Ints w a' x ∧ ∀ ad, eff a' x = some ad → K ad.block
theorem VC.blk {K : Nat → Prop} {w : World} {base g : Nat} {cs : List (List Int)} (h : VC K w base g cs) : base ≤ g ∧ g < w.heap.size ∧ ∃ cur, w.heap[g]? = some (.cells cur 58 (0, 0)) := by
  obtain ⟨vals, hr, _⟩ := h
  rcases hr.2 with ⟨e, _⟩ | ⟨g', cap, cur, e, hb, hg, _⟩
  · cases e
  · cases e; exact ⟨hb, (Array.getElem?_eq_some_iff.1 hg).1, cur, hg⟩
theorem VC.cell {K : Nat → Prop} {w : World} {base g : Nat} {cs : List (List Int)} (h : VC K w base g cs) {i : Nat} {x : List Int} (hx : cs[i]? = some x) : ∃ a' c', w.cell? ⟨g, i, none⟩ = some (.slice a' x.length c') ∧ Ints w a' x := by
  obtain ⟨vals, hr, hv⟩ := h
  obtain ⟨a1, c1, e1, r, _⟩ := hv i x hx
  have := hr.cells (g := g) rfl i _ e1
  rw [addr_add, Nat.zero_add] at this
  exact ⟨a1, c1, this, r⟩
theorem VC.frozen {K : Nat → Prop} {w : World} {base g : Nat} {cs : List (List Int)} (h : VC K w base g cs) (i : Nat) : w.frozen? ⟨g, i, none⟩ = false := by
  obtain ⟨_, _, cur, hg⟩ := h.blk
  simp [World.frozen?, hg]
/-- it stands where its blocks stand -/
theorem VC.keep {K : Nat → Prop} {w w' : World} {base g : Nat} {cs : List (List Int)} (h : VC K w base g cs) (hs : w.heap.size ≤ w'.heap.size) (hg : w'.heap[g]? = w.heap[g]?) (hk : ∀ k, K k → w'.heap[k]? = w.heap[k]?) : VC K w' base g cs := by
  obtain ⟨vals, hr, hv⟩ := h
  refine ⟨vals, ⟨hr.1, ?_⟩, fun i x hx => ?_⟩
  · rcases hr.2 with h0 | ⟨g', cap, cur, e, hb, hgg, r⟩
    · exact .inl h0
    · cases e; exact .inr ⟨g, _, cur, rfl, hb, hg.trans hgg, r⟩
  · obtain ⟨a1, c1, e1, e2, e3⟩ := hv i x hx
    exact ⟨a1, c1, e1, e2.sameE hs (fun ad e => hk _ (e3 ad e)), e3⟩
theorem VC.ne {K : Nat → Prop} {w : World} {base g : Nat} {cs : List (List Int)} (h : VC K w base g cs) {b : Option Addr} {zs : List Int} (hz : Ints w b zs) : ∀ ad, eff b zs = some ad → ad.block ≠ g := by
  intro ad e hne
  have h0 : 0 < zs.length := by
    rcases Nat.eq_zero_or_pos zs.length with h' | h'
    · rw [List.eq_nil_of_length_eq_zero h', eff_nil] at e; cases e
    · exact h'
  have e' := eff_some e
  obtain ⟨b', off, rfl, hlt, hc⟩ := hz.addr h0
  cases e'
  simp only at hne
  subst hne
  obtain ⟨z, hz0⟩ : ∃ z, zs[0]? = some z := ⟨zs[0], by simp [h0]⟩
  have h1 := hc 0 z hz0
  obtain ⟨vals, hr, hv⟩ := h
  rcases hr.2 with ⟨e, _⟩ | ⟨g', cap, cur, e, _, hg, hnc, _, hcs, htake⟩
  · cases e
  · cases e
    rw [cell_of_cells hg] at h1
    have hvl : vals.length = cs.length := by simpa using hr.1
    have hcur : cur.toList = vals := by rw [← htake, List.take_of_length_le (by simp; omega)]
    rw [← Array.getElem?_toList, hcur] at h1
    have hlt' : off + 0 < cs.length := by rw [← hvl]; exact (List.getElem?_eq_some_iff.1 h1).1
    obtain ⟨a1, c1, e1, _⟩ := hv (off + 0) cs[off + 0] (List.getElem?_eq_getElem hlt')
    rw [h1] at e1; cases e1
/-- a clause is laid in -/
theorem VC.set {K : Nat → Prop} {w : World} {base g : Nat} {cs : List (List Int)} (h : VC K w base g cs) (j : Nat) {b : Option Addr} {d : Nat} {x : List Int} (hx : Ints w b x) (hK : ∀ ad, eff b x = some ad → K ad.block) :
    VC K (w.setCell ⟨g, j, none⟩ (.slice b x.length d)) base g (cs.set j x) := by
  have H := h
  obtain ⟨vals, hr, hv⟩ := h
  have hvl : vals.length = cs.length := by simpa using hr.1
  have hs : w.heap.size ≤ (w.setCell ⟨g, j, none⟩ (.slice b x.length d)).heap.size := by simp [World.setCell]
  have hk : ∀ {b' : Option Addr} {zs : List Int}, Ints w b' zs → Ints (w.setCell ⟨g, j, none⟩ (.slice b x.length d)) b' zs := fun {b' zs} h1 =>
    h1.sameE hs (fun ad e => Below.heap_setCell _ _ _ _ (H.ne h1 ad e))
  refine ⟨vals.set j (.slice b x.length d), by rw [List.length_set]; exact (World.ownsRow.stored hr j _).1, fun i y hy => ?_⟩
  by_cases hij : i = j
  · subst hij
    have hi : i < cs.length := by simpa using (List.getElem?_eq_some_iff.1 hy).1
    rw [List.getElem?_set_self hi] at hy
    cases hy
    exact ⟨b, d, List.getElem?_set_self (by omega), hk hx, hK⟩
  · rw [List.getElem?_set_ne (fun e => hij e.symm)] at hy
    obtain ⟨a1, c1, e1, e2, e3⟩ := hv i y hy
    exact ⟨a1, c1, by rw [List.getElem?_set_ne (fun e => hij e.symm)]; exact e1, hk e2, e3⟩
theorem VC.weak {K K' : Nat → Prop} {w : World} {base g : Nat} {cs : List (List Int)} (h : VC K w base g cs) (hk : ∀ k, K k → K' k) : VC K' w base g cs := by
  obtain ⟨vals, hr, hv⟩ := h
  exact ⟨vals, hr, fun i x hx => by obtain ⟨a1, c1, e1, e2, e3⟩ := hv i x hx; exact ⟨a1, c1, e1, e2, fun ad e => hk _ (e3 ad e)⟩⟩
/-- make([]api.Clause, n) -/
theorem wpList_make_VC {K : Nat → Prop} {w : World} {ops : Array Oper} {rest : List Oper} {o : Oper} {act : Act} {Q : Exit → Act → World → Prop} (hgd : o.guard = none) (l c : Operand) (hop : o.op = Op.makeSlice 38 l c)
    (base n : Nat) (hl : act.eval l = .int .i64 n) (hc : act.eval c = .int .i64 n) (hn : n ≤ 1000000) (hbase : base ≤ w.heap.size)
    (h : ∀ w', VC K w' base w.heap.size (List.replicate n []) → Below w.heap.size w w' → wpList Tryd.prog ops Q rest (act.put o.dst (.slice (some ⟨w.heap.size, 0, none⟩) n n)) w') :
    wpList Tryd.prog ops Q (o :: rest) act w := by
  obtain ⟨i0, hi, hz0, hz1, hz2⟩ := info_parts Tryd.infoClause
  refine wpList_make_full w hgd l c 38 hop base 58 i0 (.slice none 0 0) 1 Tryd.underlying38 hi hz0 hz1 .i64 .i64 n n n hl hc rfl rfl (by rw [hz2]; omega) (by unfold maxLen; omega) hbase ?_
  intro w' h1 h2
  rw [made_clauses] at h1
  refine h w' ⟨List.replicate n (Value.slice none 0 0), by rw [List.length_replicate]; exact h1, fun i x hx => ?_⟩ ⟨h2.os, h2.tape, h2.output, h2.size, fun k hk => h2.block k hk (by simp)⟩
  rw [List.getElem?_replicate] at hx
  split at hx
  · cases hx
    exact ⟨none, 0, by rw [List.getElem?_replicate, if_pos (by assumption)]; rfl, Ints.nil _ _, fun ad e => by cases e⟩
  · cases hx
theorem OwnI.sameA {w w' : World} {base : Nat} {a : Option Addr} {c : Nat} {ys : List Int} (h : OwnI w base a c ys) (hk : ∀ ad, a = some ad → w'.heap[ad.block]? = w.heap[ad.block]?) : OwnI w' base a c ys := by
  refine ⟨h.1, ?_⟩
  rcases h.2 with h0 | ⟨g, cap, cur, e, hb, hg, r⟩
  · exact .inl h0
  · injection e with e1 e2 e3
    exact .inr ⟨g, cap, cur, by rw [e1, e3], hb, (hk _ e1).trans hg, r⟩
theorem OwnI.ltA {w : World} {base : Nat} {a : Option Addr} {c : Nat} {ys : List Int} (h : OwnI w base a c ys) : ∀ ad, a = some ad → ad.block < w.heap.size := by
  intro ad e
  rcases h.parts with ⟨e', _⟩ | ⟨g, cur, e', _, hl, _⟩
  · rw [e'] at e; cases e
  · rw [e'] at e; cases e; exact hl
/-- rows of ints in block g, each in a block of its own from n1 on -/
def IR (w : World) (base n1 g : Nat) (ls : List (List Int)) : Prop :=
  ∃ (vals : List Value) (aa : Nat → Option Addr) (cc : Nat → Nat), w.ownsRow base 27 1 (.slice (some ⟨g, 0, none⟩) ls.length ls.length) ls.length vals ∧ g < n1 ∧
    (∀ (p : Nat) (zs : List Int), ls[p]? = some zs → vals[p]? = some (Value.slice (aa p) zs.length (cc p)) ∧ OwnI w n1 (aa p) (cc p) zs) ∧
    ∀ p p' ad ad', p < ls.length → p' < ls.length → p ≠ p' → aa p = some ad → aa p' = some ad' → ad.block ≠ ad'.block
theorem wpList_make_IR {w : World} {ops : Array Oper} {rest : List Oper} {o : Oper} {act : Act} {Q : Exit → Act → World → Prop} (hgd : o.guard = none) (l c : Operand) (hop : o.op = Op.makeSlice 32 l c)
    (base n : Nat) (hl : act.eval l = .int .i64 n) (hc : act.eval c = .int .i64 n) (hn : n ≤ 1000000) (hbase : base ≤ w.heap.size)
    (h : ∀ w', IR w' base (w.heap.size + 1) w.heap.size (List.replicate n []) → Below w.heap.size w w' → wpList Tryd.prog ops Q rest (act.put o.dst (.slice (some ⟨w.heap.size, 0, none⟩) n n)) w') :
    wpList Tryd.prog ops Q (o :: rest) act w := by
  obtain ⟨i0, hi, hz0, hz1, hz2⟩ := info_parts Tryd.infoRow
  refine wpList_make_full w hgd l c 32 hop base 27 i0 (.slice none 0 0) 1 Tryd.underlying32 hi hz0 hz1 .i64 .i64 n n n hl hc rfl rfl (by rw [hz2]; omega) (by unfold maxLen; omega) hbase ?_
  intro w' h1 h2
  rw [made_clauses] at h1
  refine h w' ⟨List.replicate n (Value.slice none 0 0), fun _ => none, fun _ => 0, by rw [List.length_replicate]; exact h1, Nat.lt_succ_self _, fun i x hx => ?_, fun _ _ _ _ _ _ _ e => by cases e⟩ ⟨h2.os, h2.tape, h2.output, h2.size, fun k hk => h2.block k hk (by simp)⟩
  rw [List.getElem?_replicate] at hx
  split at hx
  · cases hx
    exact ⟨by rw [List.getElem?_replicate, if_pos (by assumption)]; rfl, OwnI.nil _ _⟩
  · cases hx
theorem IR.blk {w : World} {base n1 g : Nat} {ls : List (List Int)} (h : IR w base n1 g ls) : base ≤ g ∧ g < w.heap.size ∧ g < n1 ∧ ∃ cur, w.heap[g]? = some (.cells cur 27 (0, 0)) := by
  obtain ⟨vals, aa, cc, hr, hg1, _⟩ := h
  rcases hr.2 with ⟨e, _⟩ | ⟨g', cap, cur, e, hb, hg, _⟩
  · cases e
  · cases e; exact ⟨hb, (Array.getElem?_eq_some_iff.1 hg).1, hg1, cur, hg⟩
theorem IR.frozen {w : World} {base n1 g : Nat} {ls : List (List Int)} (h : IR w base n1 g ls) (i : Nat) : w.frozen? ⟨g, i, none⟩ = false := by
  obtain ⟨_, _, _, cur, hg⟩ := h.blk
  simp [World.frozen?, hg]
theorem IR.cell {w : World} {base n1 g : Nat} {ls : List (List Int)} (h : IR w base n1 g ls) {p : Nat} {zs : List Int} (hx : ls[p]? = some zs) : ∃ a' c', w.cell? ⟨g, p, none⟩ = some (.slice a' zs.length c') ∧ OwnI w n1 a' c' zs := by
  obtain ⟨vals, aa, cc, hr, _, hv, _⟩ := h
  obtain ⟨e1, e2⟩ := hv p zs hx
  have := hr.cells (g := g) rfl p _ e1
  rw [addr_add, Nat.zero_add] at this
  exact ⟨_, _, this, e2⟩
/-- it stands where its blocks stand -/
theorem IR.keep {w w' : World} {base n1 g : Nat} {ls : List (List Int)} (h : IR w base n1 g ls) (hg : w'.heap[g]? = w.heap[g]?) (hk : ∀ k, n1 ≤ k → k < w.heap.size → w'.heap[k]? = w.heap[k]?) : IR w' base n1 g ls := by
  obtain ⟨vals, aa, cc, hr, hg1, hv, hd⟩ := h
  refine ⟨vals, aa, cc, ⟨hr.1, ?_⟩, hg1, fun p zs hx => ?_, hd⟩
  · rcases hr.2 with h0 | ⟨g', cap, cur, e, hb, hgg, r⟩
    · exact .inl h0
    · cases e; exact .inr ⟨g, _, cur, rfl, hb, hg.trans hgg, r⟩
  · obtain ⟨e1, e2⟩ := hv p zs hx
    refine ⟨e1, ?_⟩
    exact e2.sameA fun ad e => hk _ (e2.tagN.new ad e) (e2.ltA ad e)
/-- a number is put at a row's end -/
theorem IR.push {w w2 : World} {base n1 g p c c' : Nat} {ls : List (List Int)} {zs : List Int} {a a' : Option Addr} {o : Obj} {x : Int} (h : IR w base n1 g ls) (hp : ls[p]? = some zs) (hcell : w.cell? ⟨g, p, none⟩ = some (.slice a zs.length c)) (hn1 : n1 ≤ w.heap.size)
    (hg2 : (w.alloc o).grownBy w2 (Value.slice a zs.length c).ownBlock) (hown : OwnI w2 n1 a' c' (zs ++ [x])) (hl : LiesAt (w.alloc o).heap.size a a') :
    IR (w2.setCell ⟨g, p, none⟩ (.slice a' (zs.length + 1) c')) base n1 g (ls.set p (zs ++ [x])) ∧ Below base w (w2.setCell ⟨g, p, none⟩ (.slice a' (zs.length + 1) c')) ∧ w.heap.size ≤ w2.heap.size ∧
    ∀ k, k < n1 → k ≠ g → (w2.setCell ⟨g, p, none⟩ (.slice a' (zs.length + 1) c')).heap[k]? = w.heap[k]? := by
  obtain ⟨hbg, hgl, hg1, cur, hcur⟩ := h.blk
  obtain ⟨vals, aa, cc, hr, _, hv, hd⟩ := h
  have hpl : p < ls.length := (List.getElem?_eq_some_iff.1 hp).1
  obtain ⟨e1, e2⟩ := hv p zs hp
  have hcp := hr.cells (g := g) rfl p _ e1
  rw [addr_add, Nat.zero_add, hcell] at hcp
  injection hcp with hcp
  injection hcp with ea _ ec
  subst ea ec
  have s2 := hg2.size
  simp only [World.size_alloc] at s2
  have hob : ∀ k, (Value.slice (aa p) zs.length (cc p)).ownBlock = some k → n1 ≤ k ∧ ∃ ad, aa p = some ad ∧ ad.block = k := by
    intro k hk
    refine ⟨ownBlock_ge e2 k _ hk, ?_⟩
    rcases e2.parts with ⟨e, _⟩ | ⟨g', cur', e, _⟩
    · rw [e] at hk; simp [Value.ownBlock] at hk
    · rw [e] at hk ⊢; simp [Value.ownBlock] at hk; exact ⟨_, rfl, hk⟩
  have hsame : ∀ k, k < w.heap.size → k ≠ g → (∀ ad, aa p = some ad → ad.block ≠ k) → (w2.setCell ⟨g, p, none⟩ (.slice a' (zs.length + 1) c')).heap[k]? = w.heap[k]? := fun k hk h1 h2 => by
    rw [Below.heap_setCell _ _ _ _ h1]
    refine (hg2.block k (by simp; omega) (fun e => ?_)).trans (Below.heap_alloc _ _ k hk)
    obtain ⟨_, ad, e3, e4⟩ := hob k e.symm
    exact h2 ad e3 e4
  have hrow2 : w2.ownsRow base 27 1 (.slice (some ⟨g, 0, none⟩) ls.length ls.length) ls.length vals := by
    refine (hr.alloc o).kept hg2 ?_
    right
    intro e
    obtain ⟨h3, _⟩ := hob g (by simpa [Value.ownBlock] using e.symm)
    omega
  have hlz : (zs ++ [x]).length = zs.length + 1 := by simp
  refine ⟨⟨vals.set p (.slice a' (zs.length + 1) c'), fun k => if k = p then a' else aa k, fun k => if k = p then c' else cc k, by rw [List.length_set]; exact (World.ownsRow.stored hrow2 p _).1, hg1, fun k ys hy => ?_, fun k k' ad ad' hk hk' hne ha ha' => ?_⟩, ?_, by omega, fun k hk hkg => hsame k (by omega) hkg (fun ad e he => by have := e2.tagN.new ad e; omega)⟩
  · by_cases hkp : k = p
    · subst hkp
      rw [List.getElem?_set_self hpl] at hy
      cases hy
      have hvl : vals.length = ls.length := by simpa using hr.1
      refine ⟨by rw [List.getElem?_set_self (by omega)]; simp, ?_⟩
      simp only [if_true]
      refine hown.sameA fun ad e => Below.heap_setCell _ _ _ _ ?_
      have := hown.tagN.new ad e
      show ad.block ≠ g
      omega
    · rw [List.getElem?_set_ne (fun e => hkp e.symm)] at hy
      obtain ⟨f1, f2⟩ := hv k ys hy
      refine ⟨by rw [List.getElem?_set_ne (fun e => hkp e.symm)]; simp only [if_neg hkp]; exact f1, ?_⟩
      simp only [if_neg hkp]
      have hkl : k < ls.length := (List.getElem?_eq_some_iff.1 hy).1
      refine f2.sameA fun ad e => hsame _ (f2.ltA ad e) (by have := f2.tagN.new ad e; omega) (fun ad1 e1 he => hd p k ad1 ad hpl hkl (fun h => hkp h.symm) e1 e he)
  · simp only [List.length_set] at hk hk'
    dsimp only at ha ha'
    have hlt : ∀ k0 ad0, k0 < ls.length → aa k0 = some ad0 → ad0.block < w.heap.size := fun k0 ad0 h0 h1 => (hv k0 ls[k0] (List.getElem?_eq_getElem h0)).2.ltA ad0 h1
    by_cases hkp : k = p
    · subst hkp
      simp only [if_true] at ha
      rw [if_neg (show ¬ k' = k from fun h => hne h.symm)] at ha'
      rcases hl ad ha with ⟨ad1, f1, f2⟩ | f1
      · rw [← f2]; exact hd k k' ad1 ad' hk hk' hne f1 ha'
      · have := hlt k' ad' hk' ha'; rw [f1]; simp; omega
    · rw [if_neg hkp] at ha
      by_cases hkp' : k' = p
      · subst hkp'
        simp only [if_true] at ha'
        rcases hl ad' ha' with ⟨ad1, f1, f2⟩ | f1
        · rw [← f2]; exact hd k k' ad ad1 hk hk' hne ha f1
        · have := hlt k ad hk ha; rw [f1]; simp; omega
      · rw [if_neg hkp'] at ha'
        exact hd k k' ad ad' hk hk' hne ha ha'
  · have hbel : Below base w w2 := ((Below.refl base w).alloc (by omega) o).grown hg2 (by simp; omega) (fun k e => by have := (hob k e).1; omega)
    exact hbel.setCell (p := ⟨g, p, none⟩) hbg _
end Go.Proofs.YtdppmmimemmedaaDoor

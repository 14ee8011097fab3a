/- Slices of whatever elements that the call itself has made: how they grow. -/
import Derived.Test.YtnmcajinaigcjaaGreatDoorQRead
import Derived.Laws.AppendOwnNone
namespace Go.Proofs.YtnmcajinaigcjaaGreatDoor
open Go.RowKit

/-- the cells of a list, element after element -/
structure Flat {α : Type} (R : Rd α) (k : Nat) (w : World) (xs : List α) (cells : List Value) : Prop where
  len : cells.length = xs.length * k
  at_ : ∀ (i : Nat) (x : α), xs[i]? = some x → ∃ us : List Value, us.length = k ∧ (∀ j, j < k → cells[i * k + j]? = us[j]?) ∧ R w us x
theorem Flat.nil {α : Type} (R : Rd α) (k : Nat) (w : World) : Flat R k w [] [] := ⟨by simp, fun i x h => by simp at h⟩
theorem Flat.mono {α : Type} {R R' : Rd α} {k : Nat} {w w' : World} {xs : List α} {cells : List Value} (h : Flat R k w xs cells) (hR : ∀ us x, x ∈ xs → R w us x → R' w' us x) : Flat R' k w' xs cells :=
  ⟨h.len, fun i x hx => by obtain ⟨us, h1, h2, h3⟩ := h.at_ i x hx; exact ⟨us, h1, h2, hR _ _ (List.mem_of_getElem? hx) h3⟩⟩
theorem Flat.append {α : Type} {R : Rd α} {k : Nat} {w : World} {xs ys : List α} {cs ds : List Value} (h : Flat R k w xs cs) (h' : Flat R k w ys ds) : Flat R k w (xs ++ ys) (cs ++ ds) := by
  refine ⟨by simp [h.len, h'.len, Nat.add_mul], fun i x hx => ?_⟩
  rcases Nat.lt_or_ge i xs.length with hi | hi
  · rw [List.getElem?_append_left hi] at hx
    obtain ⟨us, h1, h2, h3⟩ := h.at_ i x hx
    refine ⟨us, h1, fun j hj => ?_, h3⟩
    have : i * k + j < cs.length := by
      rw [h.len]
      have := Nat.mul_le_mul_right k (show i + 1 ≤ xs.length from hi)
      rw [Nat.add_mul] at this; omega
    rw [List.getElem?_append_left this]; exact h2 j hj
  · rw [List.getElem?_append_right hi] at hx
    obtain ⟨us, h1, h2, h3⟩ := h'.at_ _ x hx
    refine ⟨us, h1, fun j hj => ?_, h3⟩
    have e : i * k + j - cs.length = (i - xs.length) * k + j := by
      rw [h.len, Nat.sub_mul]
      have := Nat.mul_le_mul_right k hi; omega
    rw [List.getElem?_append_right (by rw [h.len]; have := Nat.mul_le_mul_right k hi; omega), e]; exact h2 j hj
theorem addr_add (b off j : Nat) : (⟨b, off, none⟩ : Addr).add j = ⟨b, off + j, none⟩ := by
  unfold Addr.add; split
  · rename_i h; subst h; simp
  · rfl
theorem cell_of_cells {w : World} {g : Nat} {cur : Array Value} {e : TypeId} {m : Nat × Nat} (hg : w.heap[g]? = some (.cells cur e m)) (i : Nat) : w.cell? ⟨g, i, none⟩ = cur[i]? := by
  simp [World.cell?, hg]
/-- a slice that the call made, from block number base on -/
abbrev Own (e k : Nat) (w : World) (base : Nat) (a : Option Addr) (c n : Nat) (cells : List Value) : Prop := w.ownsRow base e k (.slice a n c) n cells
theorem Own.parts {e k : Nat} {w : World} {base : Nat} {a : Option Addr} {c n : Nat} {cells : List Value} (h : Own e k w base a c n cells) :
    (a = none ∧ c = 0 ∧ n = 0 ∧ cells = []) ∨ ∃ g cur, a = some ⟨g, 0, none⟩ ∧ base ≤ g ∧ g < w.heap.size ∧ w.heap[g]? = some (.cells cur e (0, 0)) ∧ n ≤ c ∧ c ≤ maxLen ∧ cur.size = c * k ∧ cur.toList.take (n * k) = cells := by
  rcases h.2 with ⟨e1, hn⟩ | ⟨g, cap, cur, e1, hb, hg, hn, hm, hs, ht⟩
  · injection e1 with e1 e2 e3
    subst hn
    exact .inl ⟨e1, e3, rfl, List.eq_nil_of_length_eq_zero (by simpa using h.1)⟩
  · injection e1 with e1 e2 e3
    subst e1 e3
    have hlt : g < w.heap.size := by
      rcases Nat.lt_or_ge g w.heap.size with h' | h'
      · exact h'
      · rw [Array.getElem?_eq_none h'] at hg; cases hg
    exact .inr ⟨g, cur, rfl, hb, hlt, hg, hn, hm, hs, ht⟩
theorem Own.cap {e k : Nat} {w : World} {base : Nat} {a : Option Addr} {c n : Nat} {cells : List Value} (h : Own e k w base a c n cells) : n ≤ c ∧ (a = none → c = 0) := by
  rcases h.parts with ⟨rfl, rfl, rfl, rfl⟩ | ⟨g, cur, rfl, hb, hlt, hg, hn, hm, hs, ht⟩
  · exact ⟨Nat.le_refl _, fun _ => rfl⟩
  · exact ⟨hn, fun h => by cases h⟩
theorem Own.cell {e k : Nat} {w : World} {base : Nat} {a : Option Addr} {c n : Nat} {cells : List Value} (h : Own e k w base a c n cells) {i : Nat} {v : Value} (hv : cells[i]? = some v) :
    ∃ g, a = some ⟨g, 0, none⟩ ∧ g < w.heap.size ∧ base ≤ g ∧ w.cell? ⟨g, i, none⟩ = some v := by
  rcases h.parts with ⟨rfl, rfl, rfl, rfl⟩ | ⟨g, cur, rfl, hb, hlt, hg, hn, hm, hs, ht⟩
  · simp at hv
  · refine ⟨g, rfl, hlt, hb, ?_⟩
    rw [cell_of_cells hg, ← Array.getElem?_toList, ← hv, ← ht, List.getElem?_take]
    rw [if_pos]
    rcases Nat.lt_or_ge i (n * k) with h' | h'
    · exact h'
    · rw [← ht, List.getElem?_eq_none (by simp; omega)] at hv; cases hv
theorem Own.sl {α : Type} {R : Rd α} {e k : Nat} {w : World} {base : Nat} {a : Option Addr} {c : Nat} {xs : List α} {cells : List Value} (h : Own e k w base a c xs.length cells) (hF : Flat R k w xs cells) (hl : xs.length ≤ 5864062014805) : Sl R k w a xs := by
  refine ⟨fun h0 => ?_, hl⟩
  rcases h.parts with ⟨_, _, h3, _⟩ | ⟨g, cur, rfl, hb, hlt, hg, hn, hm, hs, ht⟩
  · omega
  · refine ⟨g, 0, rfl, hlt, fun i x hx => ?_⟩
    obtain ⟨us, u1, u2, u3⟩ := hF.at_ i x hx
    refine ⟨us, u1, fun j hj => ?_, u3⟩
    have e1 := u2 j hj
    rw [List.getElem?_eq_getElem (l := us) (show j < us.length by omega)] at e1 ⊢
    obtain ⟨g', e2, _, _, e3⟩ := h.cell e1
    cases e2
    rw [Nat.zero_add, e3]
theorem Own.below {e k : Nat} {w w' : World} {base : Nat} {a : Option Addr} {c n : Nat} {cells : List Value} (h : Own e k w base a c n cells) (hb : Below w.heap.size w w') : Own e k w' base a c n cells := by
  refine ⟨h.1, ?_⟩
  rcases h.2 with h0 | ⟨g, cap, cur, e1, hb', hg, hn, hm, hs, ht⟩
  · exact .inl h0
  · have hlt : g < w.heap.size := by
      rcases Nat.lt_or_ge g w.heap.size with h' | h'
      · exact h'
      · rw [Array.getElem?_eq_none h'] at hg; cases hg
    exact .inr ⟨g, cap, cur, e1, hb', (hb.block g hlt).trans hg, hn, hm, hs, ht⟩
theorem ownBlock_ge {e k : Nat} {w : World} {base : Nat} {a : Option Addr} {c n : Nat} {cells : List Value} (h : Own e k w base a c n cells) : ∀ k m, (Value.slice a m c).ownBlock = some k → base ≤ k := by
  intro k m hk
  rcases h.parts with ⟨rfl, _, _⟩ | ⟨g, cur, rfl, hb, _⟩
  · simp [Value.ownBlock] at hk
  · simp [Value.ownBlock] at hk; omega
theorem Sl.flat {α : Type} {R : Rd α} {k : Nat} {w : World} {ad : Addr} {zs : List α} (h : Sl R k w (some ad) zs) (hone : ∀ us x, R w us x → ∀ u ∈ us, u.oneCell' = true) :
    ∃ cells : List Value, Flat R k w zs cells ∧ (∀ j u, cells[j]? = some u → w.cell? (ad.add j) = some u) ∧ ∀ u ∈ cells, u.oneCell' = true := by
  rcases Nat.eq_zero_or_pos zs.length with h0 | h0
  · have : zs = [] := List.eq_nil_of_length_eq_zero h0
    subst this
    exact ⟨[], Flat.nil _ _ _, fun j u hu => by simp at hu, fun u hu => by simp at hu⟩
  · obtain ⟨b, off, e, hlt, hc⟩ := h.addr h0
    cases e
    have hcell : ∀ j, j < zs.length * k → ∃ u, w.cell? ⟨b, off + j, none⟩ = some u ∧ u.oneCell' = true := by
      intro j hj
      have hk : 0 < k := by rcases Nat.eq_zero_or_pos k with h' | h'; (subst h'; simp at hj); exact h'
      have hi : j / k < zs.length := Nat.div_lt_of_lt_mul (by rwa [Nat.mul_comm] at hj)
      obtain ⟨us, u1, u2, u3⟩ := hc (j / k) zs[j / k] (List.getElem?_eq_getElem hi)
      have hm := Nat.mod_lt j hk
      have := u2 (j % k) hm
      rw [Nat.add_assoc, Nat.div_add_mod' , List.getElem?_eq_getElem (by omega)] at this
      exact ⟨_, this, hone _ _ u3 _ (List.getElem_mem _)⟩
    refine ⟨(List.range (zs.length * k)).map fun j => (w.cell? ⟨b, off + j, none⟩).getD undef, ⟨by simp, fun i x hx => ?_⟩, fun j u hu => ?_, fun u hu => ?_⟩
    · obtain ⟨us, u1, u2, u3⟩ := hc i x hx
      refine ⟨us, u1, fun j hj => ?_, u3⟩
      have hi : i < zs.length := (List.getElem?_eq_some_iff.1 hx).1
      have hlt2 : i * k + j < zs.length * k := by
        have := Nat.mul_le_mul_right k (show i + 1 ≤ zs.length from hi)
        rw [Nat.add_mul] at this; omega
      have := u2 j hj
      rw [Nat.add_assoc] at this
      rw [List.getElem?_map, List.getElem?_range hlt2, Option.map_some, this, List.getElem?_eq_getElem (by omega)]; rfl
    · rw [List.getElem?_map] at hu
      rcases Nat.lt_or_ge j (zs.length * k) with hj | hj
      · rw [List.getElem?_range hj, Option.map_some] at hu
        obtain ⟨v, hv, _⟩ := hcell j hj
        rw [hv] at hu; cases hu
        rw [addr_add]; exact hv
      · rw [List.getElem?_eq_none (by simpa using hj)] at hu; cases hu
    · obtain ⟨j, hj, rfl⟩ := List.mem_map.1 hu
      obtain ⟨v, hv, h1⟩ := hcell j (by simpa using hj)
      rw [hv]; exact h1
/-- append(ys, zs...) where the call made ys -/
theorem wpList_append_flat {α : Type} {R : Rd α} {k by' e : Nat} {z : Value} (hinfo : (Tryz.prog.info? e).map (fun i => (i.zero, i.size, i.bytes)) = some (some z, k, by')) (hzs : z.cells.size = k) (hk : 0 < k)
    {w : World} {ops : Array Oper} {rest : List Oper} {o : Oper} {act : Act} {Q : Exit → Act → World → Prop} (hgd : o.guard = none) (s x : Operand) (t : TypeId)
    (ho : o.op = .call { callee := .builtin .append, args := #[s, x], argTypes := #[t, t] }) (ht : Tryz.prog.underlying t = some (.slice e))
    (base : Nat) (a : Option Addr) (n c : Nat) (cells : List Value) (hs : act.eval s = .slice a n c) (hown : Own e k w base a c n cells)
    (b : Option Addr) (m d : Nat) (zs : List α) (hx : act.eval x = .slice b m d) (hm : zs.length = m) (hz : Sl R k w b zs) (hone : ∀ us x, R w us x → ∀ u ∈ us, u.oneCell' = true) (hd : b = none → d = 0)
    (hlen : (n + m) * by' ≤ 140737488355328) (hmax : n + m ≤ 17592186043904) (hbase : base ≤ w.heap.size)
    (h : ∀ a' c' w' cells', Own e k w' base a' c' (n + m) (cells ++ cells') → Flat R k w zs cells' → w.grownBy w' (Value.slice a n c).ownBlock → Below base w w' → wpList Tryz.prog ops Q rest (act.put o.dst (.slice a' (n + m) c')) w') :
    wpList Tryz.prog ops Q (o :: rest) act w := by
  subst hm
  obtain ⟨i0, hi, hz0, hz1, hz2⟩ := info_parts hinfo
  have fin : ∀ v' w' cells', Flat R k w zs cells' → w'.ownsRow base e k v' (n + zs.length) (cells ++ cells') → w.grownBy w' (Value.slice a n c).ownBlock → wpList Tryz.prog ops Q rest (act.put o.dst v') w' := by
    intro v' w' cells' hF h1 h2
    have hbel : Below base w w' := (Below.refl base w).grown h2 hbase (fun k hk => ownBlock_ge hown k _ hk)
    have : ∃ a' c', v' = .slice a' (n + zs.length) c' := by
      rcases h1.2 with ⟨e, hn⟩ | ⟨g, cap, cur, e, _⟩
      · exact ⟨none, 0, by rw [e, hn]⟩
      · exact ⟨_, _, e⟩
    obtain ⟨a', c', rfl⟩ := this
    exact h a' c' w' cells' h1 hF h2 hbel
  cases b with
  | some ad =>
    obtain ⟨cells', hF, hc1, hc2⟩ := hz.flat hone
    refine wpList_append_own w hgd s x t ho base e i0 z k by' ht hi hz0 hz1 hz2 hzs hk _ _ _ hs hown ad zs.length d cells' hx hF.len hc1 hc2 ?_ hlen hbase ?_
    · unfold maxLen; omega
    · intro v' w' h1 h2 _
      exact fin v' w' cells' hF h1 h2
  | none =>
    have e0 : zs = [] := by
      cases zs with
      | nil => rfl
      | cons z l => obtain ⟨_, _, e, _⟩ := hz.addr (by simp); cases e
    subst e0
    obtain rfl := hd rfl
    refine wpList_append_own_none hgd s x t ho base e i0 k ht hi _ _ _ hs hown hx ?_
    refine fin _ _ [] (Flat.nil _ _ _) ?_ ⟨rfl, rfl, rfl, Nat.le_refl _, fun _ _ _ => rfl⟩
    simpa using hown
theorem Own.made0 (e k : Nat) (w : World) (base : Nat) (hb : base ≤ w.heap.size) : Own e k (w.alloc (.cells #[] e)) base (some ⟨w.heap.size, 0, none⟩) 0 0 [] :=
  World.ownsRow_made w #[] 0 hb (by decide) (by simp)
theorem Own.nil (e k : Nat) (w : World) (base : Nat) : Own e k w base none 0 0 [] := World.ownsRow_nil _ _ _ _
/-- cells as they are -/
def RV : Rd Value := fun _ us v => us = [v] ∧ v.oneCell' = true
theorem RV.one (w : World) (v : Value) (h : v.oneCell' = true) (e : TypeId) : Sl RV 1 (w.alloc (.cells #[v] e)) (some ⟨w.heap.size, 0, none⟩) [v] := by
  refine ⟨fun _ => ⟨_, 0, rfl, by simp, fun i x hx => ?_⟩, by simp⟩
  match i, hx with
  | 0, hx =>
    simp at hx; subst hx
    refine ⟨[v], rfl, fun j hj => ?_, rfl, h⟩
    obtain rfl : j = 0 := by omega
    simp
theorem RV.ones (w : World) : ∀ us x, RV w us x → ∀ u ∈ us, u.oneCell' = true := fun us x h u hu => by rw [h.1] at hu; simp at hu; subst hu; exact h.2
theorem Flat.rv {w : World} {xs cells : List Value} (h : Flat RV 1 w xs cells) : cells = xs := by
  apply List.ext_getElem?
  intro i
  rcases Nat.lt_or_ge i xs.length with hi | hi
  · obtain ⟨us, u1, u2, u3, _⟩ := h.at_ i xs[i] (List.getElem?_eq_getElem hi)
    have := u2 0 (by omega)
    rw [u3] at this
    rw [List.getElem?_eq_getElem hi]; simpa using this
  · rw [List.getElem?_eq_none hi, List.getElem?_eq_none (by rw [h.len]; omega)]
/-- reading that leans on no block that the growing turns -/
theorem Sl.grown {α : Type} {R : Rd α} {k : Nat} {w w' : World} {row : Option Nat} {a : Option Addr} {xs : List α} (h : Sl R k w a xs) (hg : w.grownBy w' row) (hR : ∀ us x, R w us x → R w' us x) (hne : ∀ ad, a = some ad → 0 < xs.length → some ad.block ≠ row) : Sl R k w' a xs := by
  refine ⟨fun h0 => ?_, h.len⟩
  obtain ⟨b, off, e, hlt, hc⟩ := h.addr h0
  refine ⟨b, off, e, Nat.lt_of_lt_of_le hlt hg.size, fun i x hx => ?_⟩
  obtain ⟨us, u1, u2, u3⟩ := hc i x hx
  refine ⟨us, u1, fun j hj => ?_, hR _ _ u3⟩
  have := u2 j hj
  rw [List.getElem?_eq_getElem (by omega)] at this ⊢
  exact hg.cell this (hne ⟨b, off, none⟩ e h0)
/-- append(ys, x) of one cell, in a region that draws its order -/
theorem step_append1 {by' e : Nat} {z : Value} (hinfo : (Tryz.prog.info? e).map (fun i => (i.zero, i.size, i.bytes)) = some (some z, 1, by')) (hzs : z.cells.size = 1)
    {w : World} {ops : Array Oper} {o : Oper} {act : Act} {K : Act → World → Prop} {Q : Exit → Act → World → Prop} {E : Prop} (hgd : o.guard = none) (s x : Operand) (t : TypeId)
    (ho : o.op = .call { callee := .builtin .append, args := #[s, x], argTypes := #[t, t] }) (ht : Tryz.prog.underlying t = some (.slice e))
    (base : Nat) (a : Option Addr) (n c : Nat) (cells : List Value) (hs : act.eval s = .slice a n c) (hown : Own e 1 w base a c n cells)
    (ad : Addr) (v : Value) (hx : act.eval x = .slice (some ad) 1 1) (hz : w.cell? ad = some v) (hv : v.oneCell' = true)
    (hlen : (n + 1) * by' ≤ 140737488355328) (hmax : n + 1 ≤ 17592186043904) (hbase : base ≤ w.heap.size)
    (h : ∀ a' c' w', Own e 1 w' base a' c' (n + 1) (cells ++ [v]) → w.grownBy w' (Value.slice a n c).ownBlock → Below base w w' → K (act.put o.dst (.slice a' (n + 1) c')) w') :
    if Region.wanted o (yielded ops act.tmps) = true then Oper.wp Tryz.prog o act w K Q else E := by
  have hw : Region.wanted o (yielded ops act.tmps) = true := by simp [Region.wanted, hgd]
  rw [if_pos hw]
  obtain ⟨i0, hi, hz0, hz1, hz2⟩ := info_parts hinfo
  refine wp_append_own w s x t ho base e i0 z 1 by' ht hi hz0 hz1 hz2 hzs (by decide) _ _ _ hs hown ad 1 1 [v] hx rfl ?_ ?_ ?_ hlen hbase ?_
  · intro j u hj
    match j, hj with
    | 0, hj => simp at hj; subst hj; simpa [Addr.add] using hz
  · intro u hu; simp at hu; subst hu; exact hv
  · unfold maxLen; omega
  · intro v' w' h1 h2 _
    have : ∃ a' c', v' = .slice a' (n + 1) c' := by
      rcases h1.2 with ⟨_, hn⟩ | ⟨g, cap, cur, e, _⟩
      · omega
      · exact ⟨_, _, e⟩
    obtain ⟨a', c', rfl⟩ := this
    exact h a' c' w' h1 h2 ((Below.refl base w).grown h2 hbase (fun k hk => ownBlock_ge hown k _ hk))
theorem Sl.same {α : Type} {R : Rd α} {k : Nat} {w w' : World} {a : Option Addr} {xs : List α} (h : Sl R k w a xs) (hs : w.heap.size ≤ w'.heap.size) (hR : ∀ us x, R w us x → R w' us x) (he : ∀ ad, a = some ad → w'.heap[ad.block]? = w.heap[ad.block]?) : Sl R k w' a xs := by
  refine ⟨fun h0 => ?_, h.len⟩
  obtain ⟨b, off, e, hlt, hc⟩ := h.addr h0
  refine ⟨b, off, e, Nat.lt_of_lt_of_le hlt hs, fun i x hx => ?_⟩
  obtain ⟨us, u1, u2, u3⟩ := hc i x hx
  exact ⟨us, u1, fun j hj => (World.cell?_of_block (a := ⟨b, off + i * k + j, none⟩) (he ⟨b, off, none⟩ e)).trans (u2 j hj), hR _ _ u3⟩
theorem Own.same {e k : Nat} {w w' : World} {base : Nat} {a : Option Addr} {c n : Nat} {cells : List Value} (h : Own e k w base a c n cells) (he : ∀ g, a = some ⟨g, 0, none⟩ → w'.heap[g]? = w.heap[g]?) : Own e k w' base a c n cells := by
  refine ⟨h.1, ?_⟩
  rcases h.2 with h0 | ⟨g, cap, cur, e1, hb', hg, hn, hm, hs, ht⟩
  · exact .inl h0
  · have : a = some ⟨g, 0, none⟩ := by injection e1
    exact .inr ⟨g, cap, cur, e1, hb', (he g this).trans hg, hn, hm, hs, ht⟩
theorem Own.tag {e k : Nat} {w : World} {base : Nat} {a : Option Addr} {c n : Nat} {cells : List Value} (h : Own e k w base a c n cells) : ∀ ad, a = some ad → base ≤ ad.block ∧ ad.block < w.heap.size ∧ ∃ cur m, w.heap[ad.block]? = some (.cells cur e m) := fun ad e1 => by
  rcases h.parts with ⟨rfl, _⟩ | ⟨g, cur, rfl, hb, hlt, hg, _⟩
  · cases e1
  · cases e1; exact ⟨hb, hlt, cur, _, hg⟩
end Go.Proofs.YtnmcajinaigcjaaGreatDoor

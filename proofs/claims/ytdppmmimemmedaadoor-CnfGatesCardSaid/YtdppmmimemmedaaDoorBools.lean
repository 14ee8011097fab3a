/- Lists of bools that grow. -/
import Derived.Test.YtdppmmimemmedaaDoorLRows
import Derived.Deep.RegionLawGrows
namespace Go.Proofs.YtdppmmimemmedaaDoor
open Go.RowKit Go.Shelf

theorem OwnB.alloc {w : World} {base : Nat} {a : Option Addr} {c : Nat} {ys : List Bool} (h : OwnB w base a c ys) (o : Obj) : OwnB (w.alloc o) base a c ys := h.below (below_alloc (Below.refl _ _) o)
theorem OwnB.drew {w : World} {base : Nat} {a : Option Addr} {c : Nat} {ys : List Bool} (h : OwnB w base a c ys) : OwnB w.drew base a c ys := h
theorem OwnB.made0 (w : World) (base : Nat) (hb : base ≤ w.heap.size) : OwnB (w.alloc (.cells #[] 4)) base (some ⟨w.heap.size, 0, none⟩) 0 [] :=
  World.ownsRow_made w #[] 0 hb (by decide) rfl
theorem OwnB.weaken {w : World} {base b2 : Nat} {a : Option Addr} {c : Nat} {ys : List Bool} (h : OwnB w base a c ys) (hb : b2 ≤ base) : OwnB w b2 a c ys := by
  refine ⟨h.1, ?_⟩
  rcases h.2 with h0 | ⟨g, cap, cur, e, hbg, r⟩
  · exact .inl h0
  · exact .inr ⟨g, cap, cur, e, by omega, r⟩
theorem OwnB.ge {w : World} {base : Nat} {a : Option Addr} {c : Nat} {ys : List Bool} (h : OwnB w base a c ys) : ∀ k n, (Value.slice a n c).ownBlock = some k → base ≤ k := by
  intro k n hk
  rcases h.parts with ⟨rfl, _, _⟩ | ⟨g, cur, rfl, hb, _⟩
  · simp [Value.ownBlock] at hk
  · simp [Value.ownBlock] at hk; omega
/-- a list of bools that is full, or lies in blocks from base on -/
def GrowB (w : World) (base : Nat) (a : Option Addr) (c : Nat) (ys : List Bool) : Prop := (c = ys.length ∧ a ≠ none ∧ Bools w a ys) ∨ OwnB w base a c ys
theorem GrowB.below {w w' : World} {base : Nat} {a : Option Addr} {c : Nat} {ys : List Bool} (h : GrowB w base a c ys) (hb : Below w.heap.size w w') : GrowB w' base a c ys := by
  rcases h with ⟨h1, h2, h3⟩ | h
  · exact .inl ⟨h1, h2, h3.below hb⟩
  · exact .inr (h.below hb)
theorem GrowB.bools {w : World} {base : Nat} {a : Option Addr} {c : Nat} {ys : List Bool} (h : GrowB w base a c ys) (hl : ys.length ≤ 140737488351232) : Bools w a ys := by
  rcases h with ⟨_, _, h3⟩ | h
  · exact h3
  · exact h.bools hl
/-- append(ys, z) -/
theorem step_append_Bool1 {w : World} {ops : Array Oper} {o : Oper} {act : Act} {K : Act → World → Prop} {Q : Exit → Act → World → Prop} {E : Prop} {base : Nat} {a : Option Addr} {n c : Nat} {ys : List Bool} (hown : GrowB w base a c ys) (hgd : o.guard = none) (s x : Operand)
    (ho : o.op = .call { callee := .builtin .append, args := #[s, x], argTypes := #[42, 42] })
    (hs : act.eval s = .slice a n c) (hn : ys.length = n) (ad : Addr) (z : Bool) (hx : act.eval x = .slice (some ad) 1 1) (hz : w.cell? ad = some (.bool z))
    (hlen : n + 1 ≤ 1000000) (hbase : base ≤ w.heap.size)
    (h : ∀ a' c' w', OwnB w' base a' c' (ys ++ [z]) → Below base w w' → K (act.put o.dst (.slice a' (n + 1) c')) w') :
    if Region.wanted o (yielded ops act.tmps) = true then Oper.wp Tryd.prog o act w K Q else E := by
  subst hn
  obtain ⟨i0, hi, hz0, hz1, hz2⟩ := info_parts Tryd.infoBool
  have hnews : ∀ (j : Nat) (u : Value), [Value.bool z][j]? = some u → w.cell? (ad.add j) = some u := by
    intro j u hj
    match j, hj with
    | 0, hj => simp at hj; subst hj; exact hz
  have hfin : ∀ b' v' w', base ≤ b' → w'.ownsRow b' 4 1 v' (ys.length + 1) (ys.map Value.bool ++ [.bool z]) → Below base w w' → K (act.put o.dst v') w' := by
    intro b' v' w' hb' h1 h2
    have h1' : w'.ownsRow b' 4 1 v' (ys ++ [z]).length ((ys ++ [z]).map Value.bool) := by simpa using h1
    have : ∃ a' c', v' = .slice a' (ys.length + 1) c' := by
      rcases h1.2 with ⟨_, hn⟩ | ⟨g, cap, cur, e, _⟩
      · omega
      · exact ⟨_, _, e⟩
    obtain ⟨a', c', rfl⟩ := this
    refine h a' c' w' (OwnB.weaken (base := b') ?_ hb') h2
    unfold OwnB; simpa using h1'
  rcases hown with ⟨rfl, hne, hB⟩ | hown
  · obtain ⟨ad0, rfl⟩ : ∃ ad0, a = some ad0 := by cases a with | none => exact absurd rfl hne | some x => exact ⟨x, rfl⟩
    refine step_append_grows hgd s x 42 ho 4 i0 (.bool false) 1 1 Tryd.underlying42 hi hz0 hz1 hz2 rfl (by decide) (some ad0) ys.length ys.length (ys.map Value.bool) hs (fun h => by cases h) (by simp) ?_ ad 1 1 [.bool z] hx rfl hnews (by intro u hu; simp at hu; subst hu; rfl) (by omega) (by unfold maxLen; omega) (by omega) ?_
    · intro b e j u hj
      cases e
      have hjl : j < ys.length := by
        rcases Nat.lt_or_ge j ys.length with h' | h'
        · exact h'
        · rw [List.getElem?_eq_none (by simpa using h')] at hj; cases hj
      obtain ⟨b', off, e, _, hc⟩ := hB.addr (by omega)
      cases e
      rw [List.getElem?_map, List.getElem?_eq_getElem hjl] at hj
      cases hj
      rw [addr_add]; exact hc j _ (List.getElem?_eq_getElem hjl)
    · intro v' w' h1 h2
      exact hfin w.heap.size v' w' hbase h1 ((Below.refl base w).grown h2 hbase (fun k hk => by cases hk))
  · have hw : Region.wanted o (yielded ops act.tmps) = true := by simp [Region.wanted, hgd]
    rw [if_pos hw]
    refine wp_append_own_at w s x 42 ho base 4 i0 (.bool false) 1 1 Tryd.underlying42 hi hz0 hz1 hz2 rfl (by decide) _ _ _ hs hown ad 1 1 [.bool z] hx rfl hnews ?_ ?_ ?_ hbase ?_
    · intro u hu; simp at hu; subst hu; rfl
    · unfold maxLen; omega
    · omega
    · intro v' w' h1 h2 _
      exact hfin base v' w' (Nat.le_refl _) h1 ((Below.refl base w).grown h2 hbase (fun k hk => hown.ge k _ hk))
/-- append([]bool{}, ys...) -/
theorem wpList_append_Bools {w : World} {ops : Array Oper} {rest : List Oper} {o : Oper} {act : Act} {Q : Exit → Act → World → Prop} (hgd : o.guard = none) (s x : Operand)
    (ho : o.op = .call { callee := .builtin .append, args := #[s, x], argTypes := #[42, 42] })
    (base : Nat) (a : Option Addr) (n c : Nat) (ys : List Bool) (hs : act.eval s = .slice a n c) (hn : ys.length = n) (hown : OwnB w base a c ys)
    (ad : Addr) (m d : Nat) (zs : List Bool) (hx : act.eval x = .slice (some ad) m d) (hm : zs.length = m) (hz : Bools w (some ad) zs)
    (hlen : n + m ≤ 1000000) (hbase : base ≤ w.heap.size)
    (h : ∀ a' c' w', OwnB w' base a' c' (ys ++ zs) → Below base w w' → wpList Tryd.prog ops Q rest (act.put o.dst (.slice a' (n + m) c')) w') :
    wpList Tryd.prog ops Q (o :: rest) act w := by
  subst hn hm
  obtain ⟨i0, hi, hz0, hz1, hz2⟩ := info_parts Tryd.infoBool
  refine wpList_append_own w hgd s x 42 ho base 4 i0 (.bool false) 1 1 Tryd.underlying42 hi hz0 hz1 hz2 rfl (by decide) _ _ _ hs hown ad zs.length d (zs.map Value.bool) hx (by simp) ?_ ?_ ?_ ?_ hbase ?_
  · intro j u hj
    have hjl : j < zs.length := by
      rcases Nat.lt_or_ge j zs.length with h' | h'
      · exact h'
      · rw [List.getElem?_eq_none (by simpa using h')] at hj; cases hj
    obtain ⟨b', off, e, _, hc⟩ := hz.addr (by omega)
    cases e
    rw [List.getElem?_map, List.getElem?_eq_getElem hjl] at hj
    cases hj
    rw [addr_add]; exact hc j _ (List.getElem?_eq_getElem hjl)
  · intro u hu; simp at hu; rcases hu with ⟨_, rfl⟩ | ⟨_, rfl⟩ <;> rfl
  · unfold maxLen; omega
  · omega
  · intro v' w' h1 h2 _
    have h1' : w'.ownsRow base 4 1 v' (ys ++ zs).length ((ys ++ zs).map Value.bool) := by simpa using h1
    have : ∃ a' c', v' = .slice a' (ys ++ zs).length c' := by
      rcases h1'.2 with ⟨e, hn⟩ | ⟨g, cap, cur, e, _⟩
      · exact ⟨none, 0, by rw [e, hn]⟩
      · exact ⟨_, _, e⟩
    obtain ⟨a', c', rfl⟩ := this
    rw [show (ys ++ zs).length = ys.length + zs.length from List.length_append]
    exact h a' c' w' h1' ((Below.refl base w).grown h2 hbase (fun k hk => hown.ge k _ hk))
end Go.Proofs.YtdppmmimemmedaaDoor

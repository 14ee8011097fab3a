/- Lists of bools that grow. -/
import Derived.Test.YtgpifbhfnbkgoaaDoorLRows
import Derived.Test.YtgpifbhfnbkgoaaDoorBoolsA
import Derived.Deep.RegionLawGrows
namespace Go.Proofs.YtgpifbhfnbkgoaaDoor
open Go.RowKit Go.Shelf

/-- a list of bools that is full, or lies in blocks from base on -/
def GrowB (w : World) (base : Nat) (a : Option Addr) (c : Nat) (ys : List Bool) : Prop := (c = ys.length ∧ a ≠ none ∧ Bools w a ys) ∨ OwnB w base a c ys
theorem GrowB.below {w w' : World} {base : Nat} {a : Option Addr} {c : Nat} {ys : List Bool} (h : GrowB w base a c ys) (hb : Below w.heap.size w w') : GrowB w' base a c ys := by
  rcases h with ⟨h1, h2, h3⟩ | h
  · exact .inl ⟨h1, h2, h3.below hb⟩
  · exact .inr (h.below hb)
theorem GrowB.bools {w : World} {base : Nat} {a : Option Addr} {c : Nat} {ys : List Bool} (h : GrowB w base a c ys) (hl : ys.length ≤ 140737488351232) : Bools w a ys := by
  rcases h with ⟨_, _, h3⟩ | h
  · exact h3
  · exact h.bools hl
/-- append(ys, z) -/
theorem step_append_Bool1 {w : World} {ops : Array Oper} {o : Oper} {act : Act} {K : Act → World → Prop} {Q : Exit → Act → World → Prop} {E : Prop} {base : Nat} {a : Option Addr} {n c : Nat} {ys : List Bool} (hown : GrowB w base a c ys) (hgd : o.guard = none) (s x : Operand)
    (ho : o.op = .call { callee := .builtin .append, args := #[s, x], argTypes := #[55, 55] })
    (hs : act.eval s = .slice a n c) (hn : ys.length = n) (ad : Addr) (z : Bool) (hx : act.eval x = .slice (some ad) 1 1) (hz : w.cell? ad = some (.bool z))
    (hlen : n + 1 ≤ 1000000) (hbase : base ≤ w.heap.size)
    (h : ∀ a' c' w', OwnB w' base a' c' (ys ++ [z]) → Below base w w' → K (act.put o.dst (.slice a' (n + 1) c')) w') :
    if Region.wanted o (yielded ops act.tmps) = true then Oper.wp Tryd.prog o act w K Q else E := by
  subst hn
  obtain ⟨i0, hi, hz0, hz1, hz2⟩ := info_parts Tryd.infoBool
  have hnews : ∀ (j : Nat) (u : Value), [Value.bool z][j]? = some u → w.cell? (ad.add j) = some u := by
    intro j u hj
    match j, hj with
    | 0, hj => simp at hj; subst hj; exact hz
  have hfin : ∀ b' v' w', base ≤ b' → w'.ownsRow b' 4 1 v' (ys.length + 1) (ys.map Value.bool ++ [.bool z]) → Below base w w' → K (act.put o.dst v') w' := by
    intro b' v' w' hb' h1 h2
    have h1' : w'.ownsRow b' 4 1 v' (ys ++ [z]).length ((ys ++ [z]).map Value.bool) := by simpa using h1
    have : ∃ a' c', v' = .slice a' (ys.length + 1) c' := by
      rcases h1.2 with ⟨_, hn⟩ | ⟨g, cap, cur, e, _⟩
      · omega
      · exact ⟨_, _, e⟩
    obtain ⟨a', c', rfl⟩ := this
    refine h a' c' w' (OwnB.weaken (base := b') ?_ hb') h2
    unfold OwnB; simpa using h1'
  rcases hown with ⟨rfl, hne, hB⟩ | hown
  · obtain ⟨ad0, rfl⟩ : ∃ ad0, a = some ad0 := by cases a with | none => exact absurd rfl hne | some x => exact ⟨x, rfl⟩
    refine step_append_grows hgd s x 55 ho 4 i0 (.bool false) 1 1 Tryd.underlying55 hi hz0 hz1 hz2 rfl (by decide) (some ad0) ys.length ys.length (ys.map Value.bool) hs (fun h => by cases h) (by simp) ?_ ad 1 1 [.bool z] hx rfl hnews (by intro u hu; simp at hu; subst hu; rfl) (by omega) (by unfold maxLen; omega) (by omega) ?_
    · intro b e j u hj
      cases e
      have hjl : j < ys.length := by
        rcases Nat.lt_or_ge j ys.length with h' | h'
        · exact h'
        · rw [List.getElem?_eq_none (by simpa using h')] at hj; cases hj
      obtain ⟨b', off, e, _, hc⟩ := hB.addr (by omega)
      cases e
      rw [List.getElem?_map, List.getElem?_eq_getElem hjl] at hj
      cases hj
      rw [addr_add]; exact hc j _ (List.getElem?_eq_getElem hjl)
    · intro v' w' h1 h2
      exact hfin w.heap.size v' w' hbase h1 ((Below.refl base w).grown h2 hbase (fun k hk => by cases hk))
  · have hw : Region.wanted o (yielded ops act.tmps) = true := by simp [Region.wanted, hgd]
    rw [if_pos hw]
    refine wp_append_own_at w s x 55 ho base 4 i0 (.bool false) 1 1 Tryd.underlying55 hi hz0 hz1 hz2 rfl (by decide) _ _ _ hs hown ad 1 1 [.bool z] hx rfl hnews ?_ ?_ ?_ hbase ?_
    · intro u hu; simp at hu; subst hu; rfl
    · unfold maxLen; omega
    · omega
    · intro v' w' h1 h2 _
      exact hfin base v' w' (Nat.le_refl _) h1 ((Below.refl base w).grown h2 hbase (fun k hk => hown.ge k _ hk))
end Go.Proofs.YtgpifbhfnbkgoaaDoor

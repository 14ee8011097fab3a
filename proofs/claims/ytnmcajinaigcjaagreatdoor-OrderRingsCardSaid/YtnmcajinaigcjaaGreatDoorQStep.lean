/- append in a region that draws its order: rows of whatever elements that the call made. -/
import Derived.Test.YtnmcajinaigcjaaGreatDoorQOwn
import Derived.Laws.OwnMore
namespace Go.Proofs.YtnmcajinaigcjaaGreatDoor
open Go.RowKit

theorem Own.made0' (e k : Nat) (w : World) (base n : Nat) (hn : w.heap.size = n) (hb : base ≤ n) : Own e k (w.alloc (.cells #[] e)) base (some ⟨n, 0, none⟩) 0 0 [] := by
  subst hn; exact Own.made0 e k w base hb
/-- append(ys, zs...) where the call made ys -/
theorem step_append_flat {α : Type} {R : Rd α} {k by' e : Nat} {z : Value} (hinfo : (Tryz.prog.info? e).map (fun i => (i.zero, i.size, i.bytes)) = some (some z, k, by')) (hzs : z.cells.size = k) (hk : 0 < k)
    {w : World} {ops : Array Oper} {o : Oper} {act : Act} {K : Act → World → Prop} {Q : Exit → Act → World → Prop} {E : Prop} (hgd : o.guard = none) (s x : Operand) (t : TypeId)
    (ho : o.op = .call { callee := .builtin .append, args := #[s, x], argTypes := #[t, t] }) (ht : Tryz.prog.underlying t = some (.slice e))
    (base : Nat) (a : Option Addr) (n c : Nat) (cells : List Value) (hs : act.eval s = .slice a n c) (hown : Own e k w base a c n cells)
    (b : Option Addr) (m d : Nat) (zs : List α) (hx : act.eval x = .slice b m d) (hm : zs.length = m) (hz : Sl R k w b zs) (hone : ∀ us x, R w us x → ∀ u ∈ us, u.oneCell' = true) (hd : b = none → d = 0)
    (hlen : (n + m) * by' ≤ 140737488355328) (hmax : n + m ≤ 17592186043904) (hbase : base ≤ w.heap.size)
    (h : ∀ a' c' w' cells', Own e k w' base a' c' (n + m) (cells ++ cells') → Flat R k w zs cells' → w.grownBy w' (Value.slice a n c).ownBlock → Below base w w' → K (act.put o.dst (.slice a' (n + m) c')) w') :
    if Region.wanted o (yielded ops act.tmps) = true then Oper.wp Tryz.prog o act w K Q else E := by
  have hw : Region.wanted o (yielded ops act.tmps) = true := by simp [Region.wanted, hgd]
  rw [if_pos hw]
  subst hm
  obtain ⟨i0, hi, hz0, hz1, hz2⟩ := info_parts hinfo
  have fin : ∀ v' w' cells', Flat R k w zs cells' → w'.ownsRow base e k v' (n + zs.length) (cells ++ cells') → w.grownBy w' (Value.slice a n c).ownBlock → K (act.put o.dst v') w' := by
    intro v' w' cells' hF h1 h2
    have hbel : Below base w w' := (Below.refl base w).grown h2 hbase (fun k hk => ownBlock_ge hown k _ hk)
    have : ∃ a' c', v' = .slice a' (n + zs.length) c' := by
      rcases h1.2 with ⟨e, hn⟩ | ⟨g, cap, cur, e, _⟩
      · exact ⟨none, 0, by rw [e, hn]⟩
      · exact ⟨_, _, e⟩
    obtain ⟨a', c', rfl⟩ := this
    exact h a' c' w' cells' h1 hF h2 hbel
  cases b with
  | some ad =>
    obtain ⟨cells', hF, hc1, hc2⟩ := hz.flat hone
    refine wp_append_own w s x t ho base e i0 z k by' ht hi hz0 hz1 hz2 hzs hk _ _ _ hs hown ad zs.length d cells' hx hF.len hc1 hc2 ?_ hlen hbase ?_
    · unfold maxLen; omega
    · intro v' w' h1 h2 _
      exact fin v' w' cells' hF h1 h2
  | none =>
    have e0 : zs = [] := by
      cases zs with
      | nil => rfl
      | cons z l => obtain ⟨_, _, e, _⟩ := hz.addr (by simp); cases e
    subst e0
    obtain rfl := hd rfl
    have hrun := run_append_owned_none (P := Tryz.prog) (w := w) base t o.type e i0 k ht hi _ _ _ hown
    unfold Oper.wp
    simp only [List.length_nil] at hx
    simp [execOp, ho, resolve, invoke, builtin, hs, hx, hrun, Result.andThen]
    refine fin _ _ [] (Flat.nil _ _ _) ?_ ⟨rfl, rfl, rfl, Nat.le_refl _, fun _ _ _ => rfl⟩
    simpa using hown
/-- one element, all of whose cells are known -/
theorem sl_one {α : Type} {R : Rd α} {k : Nat} {w : World} {b : Nat} {us : List Value} {x : α} (hb : b < w.heap.size) (hl : us.length = k) (hc : ∀ j, j < k → w.cell? ⟨b, j, none⟩ = us[j]?) (hR : R w us x) : Sl R k w (some ⟨b, 0, none⟩) [x] := by
  refine ⟨fun _ => ⟨b, 0, rfl, hb, fun i y hy => ?_⟩, by simp⟩
  match i, hy with
  | 0, hy =>
    simp at hy; subst hy
    exact ⟨us, hl, fun j hj => by simpa using hc j hj, hR⟩
theorem Flat.stay {α : Type} {R : Rd α} {k : Nat} {w w' : World} {xs : List α} {cells : List Value} (h : Flat R k w xs cells) (hR : Stays R) (hb : Below w.heap.size w w') : Flat R k w' xs cells := h.mono fun _ _ _ hx => hR _ _ _ _ hb hx
end Go.Proofs.YtnmcajinaigcjaaGreatDoor

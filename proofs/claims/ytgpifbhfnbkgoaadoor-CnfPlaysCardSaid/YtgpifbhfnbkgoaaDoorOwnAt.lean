/- append, and where the new list lies. -/
import Derived.Test.YtgpifbhfnbkgoaaDoorOwn
import Derived.Maps.AppendAt
namespace Go.Proofs.YtgpifbhfnbkgoaaDoor
open Go.RowKit

/-- a' lies where a lay, or in a new block -/
def LiesAt (n : Nat) (a a' : Option Addr) : Prop := ∀ ad', a' = some ad' → (∃ ad, a = some ad ∧ ad.block = ad'.block) ∨ ad'.block = n
theorem LiesAt.of_ownBlock {n : Nat} {a a' : Option Addr} {l l' c c' : Nat} (h : (Value.slice a' l' c').ownBlock = (Value.slice a l c).ownBlock ∨ (Value.slice a' l' c').ownBlock = some n) : LiesAt n a a' := by
  intro ad' e
  subst e
  rcases h with h | h
  · cases a with
    | none => simp [Value.ownBlock] at h
    | some ad => simp [Value.ownBlock] at h; exact .inl ⟨ad, rfl, h.symm⟩
  · simp [Value.ownBlock] at h; exact .inr h
theorem LiesAt.refl (n : Nat) (a : Option Addr) : LiesAt n a a := fun ad e => .inl ⟨ad, e, rfl⟩
theorem LiesAt.off {X : Nat → Prop} {w : World} {n : Nat} {a a' : Option Addr} (h : LiesAt n a a') (ho : OffX X a) (hX : XLt X w) (hn : w.heap.size ≤ n) : OffX X a' := fun ad' e hx => by
  rcases h ad' e with ⟨ad, e2, e3⟩ | h2
  · exact ho ad e2 (by rw [e3]; exact hx)
  · have := hX _ hx; omega
/-- append(ys, zs...) where the call made ys, and where it lies -/
theorem wpList_append_IntsAt {w : World} {ops : Array Oper} {rest : List Oper} {o : Oper} {act : Act} {Q : Exit → Act → World → Prop} (hgd : o.guard = none) (s x : Operand) (t : TypeId)
    (ho : o.op = .call { callee := .builtin .append, args := #[s, x], argTypes := #[t, t] }) (ht : Tryd.prog.underlying t = some (.slice 3))
    (base : Nat) (a : Option Addr) (n c : Nat) (ys : List Int) (hs : act.eval s = .slice a n c) (hn : ys.length = n) (hown : OwnI w base a c ys)
    (b : Option Addr) (m d : Nat) (zs : List Int) (hx : act.eval x = .slice b m d) (hm : zs.length = m) (hz : Ints w b zs) (hd : b = none → d = 0)
    (hlen : n + m ≤ 17592186043904) (hbase : base ≤ w.heap.size)
    (h : ∀ a' c' w', OwnI w' base a' c' (ys ++ zs) → w.grownBy w' (Value.slice a n c).ownBlock → LiesAt w.heap.size a a' → wpList Tryd.prog ops Q rest (act.put o.dst (.slice a' (n + m) c')) w') :
    wpList Tryd.prog ops Q (o :: rest) act w := by
  subst hn hm
  obtain ⟨i0, hi, hz0, hz1, hz2⟩ := info_parts Tryd.infoInt
  have fin : ∀ v' w', w'.ownsRow base 3 1 v' (ys.length + zs.length) (ys.map (Value.int .i64) ++ zs.map (Value.int .i64)) → w.grownBy w' (Value.slice a ys.length c).ownBlock → (v'.ownBlock = (Value.slice a ys.length c).ownBlock ∨ v'.ownBlock = some w.heap.size) → wpList Tryd.prog ops Q rest (act.put o.dst v') w' := by
    intro v' w' h1 h2 h3
    rw [← List.map_append, ← List.length_append] at h1
    have : ∃ a' c', v' = .slice a' (ys ++ zs).length c' := by
      rcases h1.2 with ⟨e, hn⟩ | ⟨g, cap, cur, e, _⟩
      · exact ⟨none, 0, by rw [e, hn]⟩
      · exact ⟨_, _, e⟩
    obtain ⟨a', c', rfl⟩ := this
    rw [show (ys ++ zs).length = ys.length + zs.length from List.length_append]
    exact h a' c' w' h1 h2 (LiesAt.of_ownBlock h3)
  cases b with
  | some ad =>
    refine wpList_append_own_at w hgd s x t ho base 3 i0 (.int .i64 0) 1 8 ht hi hz0 hz1 hz2 rfl (by decide) _ _ _ hs hown ad zs.length d (zs.map (Value.int .i64)) hx (by simp) ?_ ?_ ?_ ?_ hbase ?_
    · intro j u hj
      have hjl : j < zs.length := by
        rcases Nat.lt_or_ge j zs.length with h' | h'
        · exact h'
        · rw [List.getElem?_eq_none (by simpa using h')] at hj; cases hj
      obtain ⟨b', off, e, _, hc⟩ := hz.addr (by omega)
      cases e
      rw [List.getElem?_map, List.getElem?_eq_getElem hjl] at hj
      cases hj
      rw [addr_add]; exact hc j _ (List.getElem?_eq_getElem hjl)
    · intro u hu; simp at hu; obtain ⟨z, _, rfl⟩ := hu; rfl
    · unfold maxLen; omega
    · omega
    · intro v' w' h1 h2 _ h3
      exact fin v' w' h1 h2 h3
  | none =>
    have e0 : zs = [] := by
      cases zs with
      | nil => rfl
      | cons z l => obtain ⟨_, _, e, _⟩ := hz.addr (by simp); cases e
    subst e0
    obtain rfl := hd rfl
    refine wpList_append_own_none hgd s x t ho base 3 i0 1 ht hi _ _ _ hs hown hx ?_
    refine fin _ _ ?_ ⟨rfl, rfl, rfl, Nat.le_refl _, fun _ _ _ => rfl⟩ (.inl rfl)
    have h' : w.ownsRow base 3 1 (.slice a ys.length c) ys.length (ys.map (Value.int .i64)) := hown
    simpa using h'
end Go.Proofs.YtgpifbhfnbkgoaaDoor

/- A formula stands while lists that it avoids grow; append inside a region. -/
import Derived.Test.YtgpifbhfnbkgoaaDoorCnf
namespace Go.Proofs.YtgpifbhfnbkgoaaDoor
open Go.RowKit Go.Shelf
variable {X X' Z Z' : Nat → Prop}

/-- blocks that a formula and its clauses lie in -/
def FBlk (w : World) (k : Nat) : Prop := ∃ cur e m, w.heap[k]? = some (.cells cur e m) ∧ (e = 75 ∨ e = 73 ∨ e = 3)
theorem Fm.turn {w w' : World} {base p vars : Nat} {cs : List (List Int)} {a : Option Addr} {c : Nat} (h : Fm X w base p vars cs a c) (hs : w.heap.size ≤ w'.heap.size)
    (key : ∀ k, k < w.heap.size → ¬ X k → FBlk w k → w'.heap[k]? = w.heap[k]?) (hX : ∀ k, X' k → X k ∨ w.heap.size ≤ k) (hlt : XLt X' w') : Fm X' w' base p vars cs a c := by
  have hrow := h.own.row
  have hoff' : ∀ {b : Option Addr}, OffX X b → (∀ ad, b = some ad → ad.block < w.heap.size) → OffX X' b := fun {b} h1 h2 ad e hz => by
    rcases hX _ hz with h3 | h3
    · exact h1 ad e h3
    · have := h2 ad e; omega
  refine ⟨h.le, (key p h.lt h.xp ⟨_, _, _, h.blk, .inl rfl⟩).trans h.blk, ?_, h.vars, h.len, hlt, fun hx => ?_⟩
  · obtain ⟨hoff, vals, ho, hv⟩ := h.own
    refine ⟨hoff' hoff fun ad e => ?_, vals, ⟨ho.1, ?_⟩, fun i x hx => ?_⟩
    · obtain ⟨_, cur, hc⟩ := hrow ad e
      exact (Array.getElem?_eq_some_iff.1 hc).1
    · rcases ho.2 with h0 | ⟨g, cap, cur, e, hbg, hgg, r⟩
      · exact .inl h0
      · have hl := (Array.getElem?_eq_some_iff.1 hgg).1
        refine .inr ⟨g, cap, cur, e, hbg, (key g hl ?_ ⟨cur, _, _, hgg, .inr (.inl rfl)⟩).trans hgg, r⟩
        injection e with e1
        exact hoff ⟨g, 0, none⟩ e1
    · obtain ⟨a', c', h1, h2, h3, h4, h5⟩ := hv i x hx
      have hl : ∀ ad, a' = some ad → ad.block < w.heap.size := fun ad e => by
        obtain ⟨cur, m, hc⟩ := h3.tag ad e
        exact (Array.getElem?_eq_some_iff.1 hc).1
      have k1 : ∀ ad, a' = some ad → w'.heap[ad.block]? = w.heap[ad.block]? := fun ad e => key _ (hl ad e) (h3.off ad e) (by
        obtain ⟨cur, m, hc⟩ := h3.tag ad e
        exact ⟨cur, _, m, hc, .inr (.inr rfl)⟩)
      exact ⟨a', c', h1, h2.same hs k1, ⟨hoff' h3.off hl, h3.tag.same k1⟩, h4, h5⟩
  · rcases hX _ hx with h3 | h3
    · exact h.xp h3
    · have := h.lt; omega

/-! ### append inside a region -/
theorem wp_append_own_at {P : Program} (w : World) {o : Oper} {a : Act} {K : Act → World → Prop} {Q : Exit → Act → World → Prop} (s x : Operand) (t : TypeId)
    (ho : o.op = .call { callee := .builtin .append, args := #[s, x], argTypes := #[t, t] })
    (base : Nat) (e : TypeId) (i : TypeInfo) (z : Value) (size bytes : Nat) (ht : P.underlying t = some (.slice e)) (hi : P.info? e = some i) (hz : i.zero = some z)
    (hsize : i.size = size) (hby : i.bytes = bytes) (hzs : z.cells.size = size) (hsz : 0 < size)
    (v : Value) (n : Nat) (xs : List Value) (hs : a.eval s = v) (hown : w.ownsRow base e size v n xs)
    (ad : Addr) (m c : Nat) (news : List Value) (hx : a.eval x = .slice (some ad) m c) (hl : news.length = m * size) (hnews : ∀ j u, news[j]? = some u → w.cell? (ad.add j) = some u) (h1 : ∀ u ∈ news, u.oneCell' = true)
    (h63 : n + m ≤ maxLen) (hbytes : (n + m) * bytes ≤ 140737488355328) (hbase : base ≤ w.heap.size)
    (h : ∀ v' w', w'.ownsRow base e size v' (n + m) (xs ++ news) → w.grownBy w' v.ownBlock → (v'.ownBlock = v.ownBlock ∨ v'.ownBlock = some w.heap.size) → K (a.put o.dst v') w') : o.wp P a w K Q := by
  obtain ⟨v', w', hr, h2, h3, _, h5⟩ := run_append_own_at (P := P) w base t o.type e i z size bytes ht hi hz hsize hby hzs hsz v n xs hown ad m c news hl hnews h1 h63 hbytes hbase
  unfold Oper.wp execOp
  simp only [ho, resolve, invoke, builtin, Sem.run_bind, Sem.run_pure, Result.andThen_ok, List.map_toArray, List.map_cons, List.map_nil, hs, hx, hr]
  exact h v' w' h2 h3 h5
end Go.Proofs.YtgpifbhfnbkgoaaDoor

/- Lists of bools that the call makes. -/
import Derived.Test.YtgpifbhfnbkgoaaDoorOwn
namespace Go.Proofs.YtgpifbhfnbkgoaaDoor
open Go.RowKit

theorem Tryd.infoBool : (Tryd.prog.info? 4).map (fun i => (i.zero, i.size, i.bytes)) = some (some (.bool false), 1, 1) := by kernel_rfl

def OwnB (w : World) (base : Nat) (a : Option Addr) (c : Nat) (m : List Bool) : Prop :=
  w.ownsRow base 4 1 (.slice a m.length c) m.length (m.map Value.bool)
theorem OwnB.parts {w : World} {base : Nat} {a : Option Addr} {c : Nat} {ys : List Bool} (h : OwnB w base a c ys) :
    (a = none ∧ c = 0 ∧ ys = []) ∨ ∃ g cur, a = some ⟨g, 0, none⟩ ∧ base ≤ g ∧ g < w.heap.size ∧ w.heap[g]? = some (.cells cur 4 (0, 0)) ∧ ys.length ≤ c ∧ c ≤ maxLen ∧ cur.size = c ∧ cur.toList.take ys.length = ys.map Value.bool := by
  rcases h.2 with ⟨e, hn⟩ | ⟨g, cap, cur, e, hb, hg, hn, hm, hs, ht⟩
  · injection e with e1 e2 e3
    exact .inl ⟨e1, e3, List.eq_nil_of_length_eq_zero e2⟩
  · injection e with e1 e2 e3
    subst e1 e3
    exact .inr ⟨g, cur, rfl, hb, (Array.getElem?_eq_some_iff.1 hg).1, hg, hn, hm, by simpa using hs, by simpa using ht⟩
theorem OwnB.cell {w : World} {base g c : Nat} {ys : List Bool} (h : OwnB w base (some ⟨g, 0, none⟩) c ys) {i : Nat} {z : Bool} (hz : ys[i]? = some z) : w.cell? ⟨g, i, none⟩ = some (.bool z) := by
  rcases h.parts with ⟨e, _⟩ | ⟨g', cur, e, hb, hlt, hg, hn, hm, hs, ht⟩
  · cases e
  · cases e
    rw [cell_of_cells hg]
    have hi : i < ys.length := by
      rcases Nat.lt_or_ge i ys.length with h' | h'
      · exact h'
      · rw [List.getElem?_eq_none h'] at hz; cases hz
    have e1 : (cur.toList.take ys.length)[i]? = (ys.map Value.bool)[i]? := by rw [ht]
    rw [List.getElem?_take, if_pos hi, List.getElem?_map, hz, Array.getElem?_toList] at e1
    exact e1
theorem OwnB.bools {w : World} {base : Nat} {a : Option Addr} {c : Nat} {ys : List Bool} (h : OwnB w base a c ys) (hl : ys.length ≤ 140737488351232) : Bools w a ys := by
  refine ⟨fun h0 => ?_, hl⟩
  rcases h.parts with ⟨_, _, rfl⟩ | ⟨g, cur, rfl, hb, hlt, hg, _⟩
  · simp at h0
  · exact ⟨g, 0, rfl, hlt, fun i z hz => by rw [Nat.zero_add]; exact h.cell hz⟩
theorem OwnB.kept {w w' : World} {base : Nat} {a : Option Addr} {c : Nat} {ys : List Bool} (h : OwnB w base a c ys) (hk : ∀ g cur, g < w.heap.size → w.heap[g]? = some (.cells cur 4 (0, 0)) → w'.heap[g]? = w.heap[g]?) : OwnB w' base a c ys := by
  refine ⟨h.1, ?_⟩
  rcases h.2 with h0 | ⟨g, cap, cur, e, hb, hg, hn, hm, hs, ht⟩
  · exact .inl h0
  · exact .inr ⟨g, cap, cur, e, hb, (hk g cur (Array.getElem?_eq_some_iff.1 hg).1 hg).trans hg, hn, hm, hs, ht⟩
theorem OwnB.below {w w' : World} {base : Nat} {a : Option Addr} {c : Nat} {ys : List Bool} (h : OwnB w base a c ys) (hb : Below w.heap.size w w') : OwnB w' base a c ys := h.kept fun g _ hlt _ => hb.block g hlt
theorem OwnB.frozen {w : World} {base g c : Nat} {ys : List Bool} (h : OwnB w base (some ⟨g, 0, none⟩) c ys) (i : Nat) : w.frozen? ⟨g, i, none⟩ = false := by
  rcases h.parts with ⟨e, _⟩ | ⟨g', cur, e, _, _, hg, _⟩
  · cases e
  · cases e; simp [World.frozen?, hg]
theorem OwnB.stored {w : World} {base g c : Nat} {ys : List Bool} (h : OwnB w base (some ⟨g, 0, none⟩) c ys) (j : Nat) (u : Bool) : OwnB (w.setCell ⟨g, j, none⟩ (.bool u)) base (some ⟨g, 0, none⟩) c (ys.set j u) := by
  have := (World.ownsRow.stored h j (.bool u)).1
  unfold OwnB
  rw [List.length_set, List.map_set]; exact this
theorem made_bools (n : Nat) : (madeCells (Value.bool false).cells (n * 1)).toList = (List.replicate n false).map Value.bool := by
  apply List.ext_getElem?
  intro i
  simp only [madeCells, Value.cells, Nat.mul_one, List.map_replicate]
  by_cases h : i < n
  · simp [h, Nat.mod_one]
  · simp [h]
/-- make([]bool, n) -/
theorem wpList_make_Bools {w : World} {ops : Array Oper} {rest : List Oper} {o : Oper} {act : Act} {Q : Exit → Act → World → Prop} (hgd : o.guard = none) (l c : Operand) (hop : o.op = Op.makeSlice 55 l c)
    (base n : Nat) (hl : act.eval l = .int .i64 n) (hc : act.eval c = .int .i64 n) (hn : n ≤ 140737488351232) (hbase : base ≤ w.heap.size)
    (h : ∀ w', OwnB w' base (some ⟨w.heap.size, 0, none⟩) n (List.replicate n false) → Below w.heap.size w w' → w.heap.size < w'.heap.size → wpList Tryd.prog ops Q rest (act.put o.dst (.slice (some ⟨w.heap.size, 0, none⟩) n n)) w') :
    wpList Tryd.prog ops Q (o :: rest) act w := by
  obtain ⟨i0, hi, hz0, hz1, hz2⟩ := info_parts Tryd.infoBool
  refine wpList_make_full w hgd l c 55 hop base 4 i0 (.bool false) 1 Tryd.underlying55 hi hz0 hz1 .i64 .i64 n n n hl hc rfl rfl (by rw [hz2]; omega) (by unfold maxLen; omega) hbase ?_
  intro w' h1 h2
  rw [made_bools] at h1
  have h3 : OwnB w' base (some ⟨w.heap.size, 0, none⟩) n (List.replicate n false) := by
    unfold OwnB; rw [List.length_replicate]; exact h1
  refine h w' h3 ⟨h2.os, h2.tape, h2.output, h2.size, fun k hk => h2.block k hk (by simp)⟩ ?_
  rcases h3.parts with ⟨e, _⟩ | ⟨g, cur, e, _, hlt, _⟩
  · cases e
  · cases e; exact hlt
theorem OwnB.alloc {w : World} {base : Nat} {a : Option Addr} {c : Nat} {ys : List Bool} (h : OwnB w base a c ys) (o : Obj) : OwnB (w.alloc o) base a c ys := h.below ((Below.refl _ _).alloc (Nat.le_refl _) o)
theorem OwnB.drew {w : World} {base : Nat} {a : Option Addr} {c : Nat} {ys : List Bool} (h : OwnB w base a c ys) : OwnB w.drew base a c ys := h
theorem OwnB.made0 (w : World) (base : Nat) (hb : base ≤ w.heap.size) : OwnB (w.alloc (.cells #[] 4)) base (some ⟨w.heap.size, 0, none⟩) 0 [] :=
  World.ownsRow_made w #[] 0 hb (by decide) rfl
theorem OwnB.weaken {w : World} {base b2 : Nat} {a : Option Addr} {c : Nat} {ys : List Bool} (h : OwnB w base a c ys) (hb : b2 ≤ base) : OwnB w b2 a c ys := by
  refine ⟨h.1, ?_⟩
  rcases h.2 with h0 | ⟨g, cap, cur, e, hbg, r⟩
  · exact .inl h0
  · exact .inr ⟨g, cap, cur, e, by omega, r⟩
theorem OwnB.ge {w : World} {base : Nat} {a : Option Addr} {c : Nat} {ys : List Bool} (h : OwnB w base a c ys) : ∀ k n, (Value.slice a n c).ownBlock = some k → base ≤ k := by
  intro k n hk
  rcases h.parts with ⟨rfl, _, _⟩ | ⟨g, cur, rfl, hb, _⟩
  · simp [Value.ownBlock] at hk
  · simp [Value.ownBlock] at hk; omega
/-- append([]bool{}, ys...) -/
theorem wpList_append_Bools {w : World} {ops : Array Oper} {rest : List Oper} {o : Oper} {act : Act} {Q : Exit → Act → World → Prop} (hgd : o.guard = none) (s x : Operand)
    (ho : o.op = .call { callee := .builtin .append, args := #[s, x], argTypes := #[55, 55] })
    (base : Nat) (a : Option Addr) (n c : Nat) (ys : List Bool) (hs : act.eval s = .slice a n c) (hn : ys.length = n) (hown : OwnB w base a c ys)
    (ad : Addr) (m d : Nat) (zs : List Bool) (hx : act.eval x = .slice (some ad) m d) (hm : zs.length = m) (hz : Bools w (some ad) zs)
    (hlen : n + m ≤ 1000000) (hbase : base ≤ w.heap.size)
    (h : ∀ a' c' w', OwnB w' base a' c' (ys ++ zs) → Below base w w' → wpList Tryd.prog ops Q rest (act.put o.dst (.slice a' (n + m) c')) w') :
    wpList Tryd.prog ops Q (o :: rest) act w := by
  subst hn hm
  obtain ⟨i0, hi, hz0, hz1, hz2⟩ := info_parts Tryd.infoBool
  refine wpList_append_own w hgd s x 55 ho base 4 i0 (.bool false) 1 1 Tryd.underlying55 hi hz0 hz1 hz2 rfl (by decide) _ _ _ hs hown ad zs.length d (zs.map Value.bool) hx (by simp) ?_ ?_ ?_ ?_ hbase ?_
  · intro j u hj
    have hjl : j < zs.length := by
      rcases Nat.lt_or_ge j zs.length with h' | h'
      · exact h'
      · rw [List.getElem?_eq_none (by simpa using h')] at hj; cases hj
    obtain ⟨b', off, e, _, hc⟩ := hz.addr (by omega)
    cases e
    rw [List.getElem?_map, List.getElem?_eq_getElem hjl] at hj
    cases hj
    rw [addr_add]; exact hc j _ (List.getElem?_eq_getElem hjl)
  · intro u hu; simp at hu; rcases hu with ⟨_, rfl⟩ | ⟨_, rfl⟩ <;> rfl
  · unfold maxLen; omega
  · omega
  · intro v' w' h1 h2 _
    have h1' : w'.ownsRow base 4 1 v' (ys ++ zs).length ((ys ++ zs).map Value.bool) := by simpa using h1
    have : ∃ a' c', v' = .slice a' (ys ++ zs).length c' := by
      rcases h1'.2 with ⟨e, hn⟩ | ⟨g, cap, cur, e, _⟩
      · exact ⟨none, 0, by rw [e, hn]⟩
      · exact ⟨_, _, e⟩
    obtain ⟨a', c', rfl⟩ := this
    rw [show (ys ++ zs).length = ys.length + zs.length from List.length_append]
    exact h a' c' w' h1' ((Below.refl base w).grown h2 hbase (fun k hk => hown.ge k _ hk))
end Go.Proofs.YtgpifbhfnbkgoaaDoor

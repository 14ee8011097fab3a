/- Rows of bools that the call makes; rules.Chosen, haversackref11.SameBools. -/
import Derived.Test.YtnmcajinaigcjaaGreatDoorQOwn
import Derived.Laws.CopyOwn
import Derived.OwnWalk
import Derived.WalkMore
namespace Go.Proofs.YtnmcajinaigcjaaGreatDoor
open Go.RowKit

theorem Tryz.infoBool : (Tryz.prog.info? 4).map (fun i => (i.zero, i.size, i.bytes)) = some (some (.bool false), 1, 1) := by kernel_rfl
def OwnB (w : World) (base : Nat) (a : Option Addr) (c : Nat) (m : List Bool) : Prop :=
  w.ownsRow base 4 1 (.slice a m.length c) m.length (m.map Value.bool)
theorem OwnB.parts {w : World} {base : Nat} {a : Option Addr} {c : Nat} {ys : List Bool} (h : OwnB w base a c ys) :
    (a = none ∧ c = 0 ∧ ys = []) ∨ ∃ g cur, a = some ⟨g, 0, none⟩ ∧ base ≤ g ∧ g < w.heap.size ∧ w.heap[g]? = some (.cells cur 4 (0, 0)) ∧ ys.length ≤ c ∧ c ≤ maxLen ∧ cur.size = c ∧ cur.toList.take ys.length = ys.map Value.bool := by
  rcases h.2 with ⟨e, hn⟩ | ⟨g, cap, cur, e, hb, hg, hn, hm, hs, ht⟩
  · injection e with e1 e2 e3
    exact .inl ⟨e1, e3, List.eq_nil_of_length_eq_zero e2⟩
  · injection e with e1 e2 e3
    subst e1 e3
    exact .inr ⟨g, cur, rfl, hb, (Array.getElem?_eq_some_iff.1 hg).1, hg, hn, hm, by simpa using hs, by simpa using ht⟩
theorem OwnB.cell {w : World} {base g c : Nat} {ys : List Bool} (h : OwnB w base (some ⟨g, 0, none⟩) c ys) {i : Nat} {z : Bool} (hz : ys[i]? = some z) : w.cell? ⟨g, i, none⟩ = some (.bool z) := by
  rcases h.parts with ⟨e, _⟩ | ⟨g', cur, e, hb, hlt, hg, hn, hm, hs, ht⟩
  · cases e
  · cases e
    rw [cell_of_cells hg]
    have hi : i < ys.length := by
      rcases Nat.lt_or_ge i ys.length with h' | h'
      · exact h'
      · rw [List.getElem?_eq_none h'] at hz; cases hz
    have e1 : (cur.toList.take ys.length)[i]? = (ys.map Value.bool)[i]? := by rw [ht]
    rw [List.getElem?_take, if_pos hi, List.getElem?_map, hz, Array.getElem?_toList] at e1
    exact e1
theorem OwnB.bools {w : World} {base : Nat} {a : Option Addr} {c : Nat} {ys : List Bool} (h : OwnB w base a c ys) (hl : ys.length ≤ 140737488351232) : Bools w a ys := by
  refine ⟨fun h0 => ?_, hl⟩
  rcases h.parts with ⟨_, _, rfl⟩ | ⟨g, cur, rfl, hb, hlt, hg, _⟩
  · simp at h0
  · exact ⟨g, 0, rfl, hlt, fun i z hz => by rw [Nat.zero_add]; exact h.cell hz⟩
theorem OwnB.kept {w w' : World} {base : Nat} {a : Option Addr} {c : Nat} {ys : List Bool} (h : OwnB w base a c ys) (hk : ∀ g cur, g < w.heap.size → w.heap[g]? = some (.cells cur 4 (0, 0)) → w'.heap[g]? = w.heap[g]?) : OwnB w' base a c ys := by
  refine ⟨h.1, ?_⟩
  rcases h.2 with h0 | ⟨g, cap, cur, e, hb, hg, hn, hm, hs, ht⟩
  · exact .inl h0
  · exact .inr ⟨g, cap, cur, e, hb, (hk g cur (Array.getElem?_eq_some_iff.1 hg).1 hg).trans hg, hn, hm, hs, ht⟩
theorem OwnB.below {w w' : World} {base : Nat} {a : Option Addr} {c : Nat} {ys : List Bool} (h : OwnB w base a c ys) (hb : Below w.heap.size w w') : OwnB w' base a c ys := h.kept fun g _ hlt _ => hb.block g hlt
theorem OwnB.frozen {w : World} {base g c : Nat} {ys : List Bool} (h : OwnB w base (some ⟨g, 0, none⟩) c ys) (i : Nat) : w.frozen? ⟨g, i, none⟩ = false := by
  rcases h.parts with ⟨e, _⟩ | ⟨g', cur, e, _, _, hg, _⟩
  · cases e
  · cases e; simp [World.frozen?, hg]
theorem OwnB.stored {w : World} {base g c : Nat} {ys : List Bool} (h : OwnB w base (some ⟨g, 0, none⟩) c ys) (j : Nat) (u : Bool) : OwnB (w.setCell ⟨g, j, none⟩ (.bool u)) base (some ⟨g, 0, none⟩) c (ys.set j u) := by
  have := (World.ownsRow.stored h j (.bool u)).1
  unfold OwnB
  rw [List.length_set, List.map_set]; exact this
theorem made_bools (n : Nat) : (madeCells (Value.bool false).cells (n * 1)).toList = (List.replicate n false).map Value.bool := by
  apply List.ext_getElem?
  intro i
  simp only [madeCells, Value.cells, Nat.mul_one, List.map_replicate]
  by_cases h : i < n
  · simp [h, Nat.mod_one]
  · simp [h]
/-- make([]bool, n) -/
theorem wpList_make_Bools {w : World} {ops : Array Oper} {rest : List Oper} {o : Oper} {act : Act} {Q : Exit → Act → World → Prop} (hgd : o.guard = none) (l c : Operand) (hop : o.op = Op.makeSlice 23 l c)
    (base n : Nat) (hl : act.eval l = .int .i64 n) (hc : act.eval c = .int .i64 n) (hn : n ≤ 140737488351232) (hbase : base ≤ w.heap.size)
    (h : ∀ w', OwnB w' base (some ⟨w.heap.size, 0, none⟩) n (List.replicate n false) → Below w.heap.size w w' → w.heap.size < w'.heap.size → wpList Tryz.prog ops Q rest (act.put o.dst (.slice (some ⟨w.heap.size, 0, none⟩) n n)) w') :
    wpList Tryz.prog ops Q (o :: rest) act w := by
  obtain ⟨i0, hi, hz0, hz1, hz2⟩ := info_parts Tryz.infoBool
  refine wpList_make_full w hgd l c 23 hop base 4 i0 (.bool false) 1 Tryz.underlying23 hi hz0 hz1 .i64 .i64 n n n hl hc rfl rfl (by rw [hz2]; omega) (by unfold maxLen; omega) hbase ?_
  intro w' h1 h2
  rw [made_bools] at h1
  have h3 : OwnB w' base (some ⟨w.heap.size, 0, none⟩) n (List.replicate n false) := by
    unfold OwnB; rw [List.length_replicate]; exact h1
  refine h w' h3 ⟨h2.os, h2.tape, h2.output, h2.size, fun k hk => h2.block k hk (by simp)⟩ ?_
  rcases h3.parts with ⟨e, _⟩ | ⟨g, cur, e, _, hlt, _⟩
  · cases e
  · cases e; exact hlt
/-- rows of bools, from block number base on -/
theorem bDr {n q : Nat} {w w' : World} (h : Below n w w') : Below n w (w'.drewN q) := ⟨h.1, h.2, h.3, h.4, h.5⟩
theorem OwnB.whole {w : World} {base g c : Nat} {ys : List Bool} (h : OwnB w base (some ⟨g, 0, none⟩) c ys) (hc : c = ys.length) : w.heap[g]? = some (.cells (ys.map Value.bool).toArray 4 (0, 0)) := by
  rcases h.parts with ⟨e, _⟩ | ⟨g', cur, e, hb, hlt, hg, hn, hm, hs, ht⟩
  · cases e
  · cases e
    rw [hg]
    have : cur = (ys.map Value.bool).toArray := by
      apply Array.toList_inj.1
      rw [← ht, List.take_of_length_le (by simp; omega)]
    rw [this]
/-- a new list of bools -/
def NewBools (w : World) (m : List Bool) (e : Ending) (w' : World) : Prop := ∃ a c, e = .returned (.slice a m.length c) ∧ (m.length ≤ c ∧ (a = none → c = 0)) ∧ Bools w' a m ∧ Below w.heap.size w w'
theorem bools_of_block {w : World} {g : Nat} {ys : List Bool} (hg : w.heap[g]? = some (.cells (ys.map Value.bool).toArray 4 (0, 0))) (hl : ys.length ≤ 140737488351232) : Bools w (some ⟨g, 0, none⟩) ys := by
  refine ⟨fun _ => ⟨g, 0, rfl, (Array.getElem?_eq_some_iff.1 hg).1, fun i z hz => ?_⟩, hl⟩
  rw [cell_of_cells hg]
  simp [hz]
/-- what a model chooses of N records -/
def Q.chosenL (m : List Bool) (N : Nat) : List Bool := m.take N ++ List.replicate (N - m.length) false
theorem Q.chosenL_len (m : List Bool) (N : Nat) : (Q.chosenL m N).length = N := by unfold Q.chosenL; simp; omega
theorem splice_chosen (m : List Bool) (N : Nat) : splice ((List.replicate N false).map Value.bool) 0 ((m.take N).map Value.bool) = (Q.chosenL m N).map Value.bool := by
  unfold splice Q.chosenL
  simp
  omega
theorem OwnB.lt {w : World} {base g c : Nat} {ys : List Bool} (h : OwnB w base (some ⟨g, 0, none⟩) c ys) : base ≤ g := by
  rcases h.parts with ⟨e, _⟩ | ⟨g', cur, e, hb, _⟩
  · cases e
  · cases e; exact hb
/-- copy into bools that were just made -/
theorem wpList_copy_Bools {w : World} {ops : Array Oper} {rest : List Oper} {o : Oper} {act : Act} {Qp : Exit → Act → World → Prop} (hgd : o.guard = none) (d s : Operand)
    (ho : o.op = .call { callee := .builtin .copy, args := #[d, s], argTypes := #[23, 23] }) (base g n : Nat) (hd : act.eval d = .slice (some ⟨g, 0, none⟩) n n) (hown : OwnB w base (some ⟨g, 0, none⟩) n (List.replicate n false))
    (a : Option Addr) (k c : Nat) (m : List Bool) (hs : act.eval s = .slice a k c) (hk : m.length = k) (hm : Bools w a m) (hn : n ≤ 140737488351232)
    (h : ∀ v w', Bools w' (some ⟨g, 0, none⟩) (Q.chosenL m n) → Below base w w' → wpList Tryz.prog ops Qp rest (act.put o.dst v) w') :
    wpList Tryz.prog ops Qp (o :: rest) act w := by
  subst hk
  refine wpList_copy_splice hgd d s 23 23 ho 4 Tryz.underlying23 (by kernel_rfl) (some ⟨g, 0, none⟩) a n n m.length c hd hs g 0 ((List.replicate n false).map Value.bool) 4 (hown.whole (by simp)) ((m.take n).map Value.bool) ?_ ?_ ?_ ?_ base w (Below.refl _ _) hown.lt ?_
  · rw [List.length_map, List.length_take]; exact Nat.min_comm _ _
  · intro h0
    refine ⟨rfl, ?_⟩
    obtain ⟨b, off, rfl, hlt, hc⟩ := hm.addr (by simp at h0; omega)
    refine ⟨_, rfl, fun j v hj => ?_⟩
    rw [addr_add]
    rw [List.getElem?_map] at hj
    cases hz : (m.take n)[j]? with
    | none => rw [hz] at hj; simp at hj
    | some z =>
      rw [hz] at hj
      simp at hj; subst hj
      rw [List.getElem?_take] at hz
      split at hz
      · exact hc j z hz
      · cases hz
  · simp; omega
  · intro v hv
    obtain ⟨z, _, rfl⟩ := List.mem_map.1 hv
    rfl
  · intro w' hg' hb'
    have hg2 := hg'.out
    rw [splice_chosen] at hg2
    exact h _ w' (bools_of_block hg2 (by rw [Q.chosenL_len]; exact hn)) hb'
/-- two rows of bools -/
def Q.eqB (a b : List Bool) : Bool := decide (a = b)
end Go.Proofs.YtnmcajinaigcjaaGreatDoor

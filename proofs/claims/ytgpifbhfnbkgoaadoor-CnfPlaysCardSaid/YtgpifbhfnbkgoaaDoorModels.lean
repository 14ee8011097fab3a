/- Rows of bools that the call makes; haversacklaw15.models. -/
import Derived.Test.YtgpifbhfnbkgoaaDoorClauses
import Derived.Test.YtgpifbhfnbkgoaaDoorBoolsA
import Derived.Lib.RabinKarpLaws
namespace Go.Proofs.YtgpifbhfnbkgoaaDoor
open Go.RowKit

theorem Tryd.infoBools : (Tryd.prog.info? 55).map (fun i => (i.zero, i.size, i.bytes)) = some (some (.slice none 0 0), 1, 24) := by kernel_rfl

/-- rows of bools, from block number base on -/
def OwnR (w : World) (base : Nat) (a : Option Addr) (c : Nat) (ms : List (List Bool)) : Prop :=
  ∃ vals : List Value, w.ownsRow base 55 1 (.slice a ms.length c) ms.length vals ∧
    ∀ (i : Nat) (m : List Bool), ms[i]? = some m → ∃ a', vals[i]? = some (Value.slice a' m.length m.length) ∧ OwnB w base a' m.length m
theorem OwnR.row {w : World} {base : Nat} {a : Option Addr} {c : Nat} {ms : List (List Bool)} (h : OwnR w base a c ms) : ∀ ad, a = some ad → base ≤ ad.block ∧ ∃ cur, w.heap[ad.block]? = some (.cells cur 55 (0, 0)) := by
  intro ad e
  obtain ⟨vals, ho, _⟩ := h
  rcases ho.2 with ⟨e0, _⟩ | ⟨g, cap, cur, e0, hb, hg, _⟩
  · injection e0 with e1; rw [e] at e1; cases e1
  · injection e0 with e1; rw [e] at e1; cases e1; exact ⟨hb, cur, hg⟩
theorem OwnR.below {w w' : World} {base : Nat} {a : Option Addr} {c : Nat} {ms : List (List Bool)} (h : OwnR w base a c ms) (hb : Below w.heap.size w w') : OwnR w' base a c ms := by
  obtain ⟨vals, ho, hv⟩ := h
  refine ⟨vals, ho.kept (row := none) ⟨hb.os, hb.tape, hb.output, hb.size, fun k hk _ => hb.block k hk⟩ ?_, fun i x hx => ?_⟩
  · cases a <;> simp [Value.ownBlock]
  · obtain ⟨a', h1, h2⟩ := hv i x hx
    exact ⟨a', h1, h2.below hb⟩
theorem OwnR.cellN {w : World} {base : Nat} {a : Option Addr} {c : Nat} {ms : List (List Bool)} (h : OwnR w base a c ms) {i : Nat} {m : List Bool} (hm : ms[i]? = some m) :
    ∃ g a', a = some ⟨g, 0, none⟩ ∧ w.cell? ⟨g, i, none⟩ = some (.slice a' m.length m.length) ∧ OwnB w base a' m.length m := by
  obtain ⟨vals, hr, hv⟩ := h
  obtain ⟨a1, e1, r⟩ := hv i m hm
  rcases hr.2 with ⟨_, hn⟩ | ⟨g, cap, cur, e, _, hg, _⟩
  · rw [List.eq_nil_of_length_eq_zero hn] at hm; simp at hm
  · injection e with e1' e2 e3
    subst e1'
    have := hr.cells (g := g) rfl i _ e1
    rw [addr_add, Nat.zero_add] at this
    exact ⟨g, a1, rfl, this, r⟩
theorem OwnR.cell {w : World} {base : Nat} {a : Option Addr} {c : Nat} {ms : List (List Bool)} (h : OwnR w base a c ms) {i : Nat} {m : List Bool} (hm : ms[i]? = some m) :
    ∃ g a' c', a = some ⟨g, 0, none⟩ ∧ w.cell? ⟨g, i, none⟩ = some (.slice a' m.length c') ∧ OwnB w base a' c' m := by
  obtain ⟨g, a', h1, h2, h3⟩ := h.cellN hm
  exact ⟨g, a', _, h1, h2, h3⟩
/-- append(rows, m) -/
theorem wpList_append_Row {w : World} {ops : Array Oper} {rest : List Oper} {o : Oper} {act : Act} {Q : Exit → Act → World → Prop} (hgd : o.guard = none) (s x : Operand)
    (ho : o.op = .call { callee := .builtin .append, args := #[s, x], argTypes := #[105, 105] })
    (base : Nat) (a : Option Addr) (n c : Nat) (ms : List (List Bool)) (hs : act.eval s = .slice a n c) (hn : ms.length = n) (hown : OwnR w base a c ms)
    (ad : Addr) (b : Option Addr) (k d : Nat) (m : List Bool) (hx : act.eval x = .slice (some ad) 1 1) (hcell : w.cell? ad = some (.slice b k d)) (hk : m.length = k) (hd : k = d) (hb : OwnB w base b d m) (hlen : n + 1 ≤ 1000000) (hbase : base ≤ w.heap.size)
    (h : ∀ a' c' w', OwnR w' base a' c' (ms ++ [m]) → Below base w w' → wpList Tryd.prog ops Q rest (act.put o.dst (.slice a' (n + 1) c')) w') :
    wpList Tryd.prog ops Q (o :: rest) act w := by
  subst hn hk hd
  obtain ⟨i0, hi, hz0, hz1, hz2⟩ := info_parts Tryd.infoBools
  have hrow := hown.row
  obtain ⟨vals, hr, hvals⟩ := hown
  have hvl : vals.length = ms.length := by simpa using hr.1
  refine wpList_append_own w hgd s x 105 ho base 55 i0 (.slice none 0 0) 1 24 Tryd.underlying105 hi hz0 hz1 hz2 rfl (by decide) _ _ _ hs hr ad 1 1 [.slice b m.length m.length] hx rfl ?_ ?_ ?_ ?_ hbase ?_
  · intro j u hj
    match j, hj with
    | 0, hj => simp at hj; subst hj; exact hcell
  · intro u hu; simp at hu; subst hu; rfl
  · unfold maxLen; omega
  · omega
  · intro v' w' h1 h2 _
    have hob : ∀ k, (Value.slice a ms.length c).ownBlock = some k → base ≤ k ∧ ∃ cur, w.heap[k]? = some (.cells cur 55 (0, 0)) := by
      intro k hk
      cases a with
      | none => simp [Value.ownBlock] at hk
      | some ad => simp [Value.ownBlock] at hk; subst hk; exact hrow ad rfl
    have hkp : ∀ {b' : Option Addr} {d' : Nat} {m' : List Bool}, OwnB w base b' d' m' → OwnB w' base b' d' m' := by
      intro b' d' m' h3
      refine h3.kept fun g cur hlt hg => h2.block g hlt fun e => ?_
      obtain ⟨_, cur', hc⟩ := hob g e.symm
      rw [hg] at hc; cases hc
    have hbel : Below base w w' := (Below.refl base w).grown h2 hbase (fun k hk => (hob k hk).1)
    have : ∃ a' c', v' = .slice a' (ms.length + 1) c' := by
      rcases h1.2 with ⟨_, hn⟩ | ⟨g, cap, cur, e, _⟩
      · omega
      · exact ⟨_, _, e⟩
    obtain ⟨a', c', rfl⟩ := this
    refine h a' c' w' ⟨vals ++ [.slice b m.length m.length], by simpa using h1, fun i y hy => ?_⟩ hbel
    by_cases hil : i < ms.length
    · rw [List.getElem?_append_left hil] at hy
      obtain ⟨a1, e1, e2⟩ := hvals i y hy
      exact ⟨a1, by rw [List.getElem?_append_left (by omega)]; exact e1, hkp e2⟩
    · have hil' : i = ms.length := by
        rcases Nat.lt_or_ge i (ms ++ [m]).length with h' | h'
        · simp at h'; omega
        · rw [List.getElem?_eq_none h'] at hy; cases hy
      subst hil'
      rw [List.getElem?_append_right (Nat.le_refl _)] at hy
      simp at hy; subst hy
      exact ⟨b, by rw [List.getElem?_append_right (by omega)]; simp [hvl], hkp hb⟩
/-- the k-th model of n variables -/
def M.model (n k : Nat) : List Bool := (List.range n).map fun i => k.testBit i
theorem M.model_length (n k : Nat) : (M.model n k).length = n := by simp [M.model]
def M.modelTo (n k j : Nat) : List Bool := (List.range j).map (fun i => k.testBit i) ++ List.replicate (n - j) false
theorem M.modelTo_set (n k j : Nat) (h : j < n) : (M.modelTo n k j).set j (k.testBit j) = M.modelTo n k (j + 1) := by
  unfold M.modelTo
  rw [show n - j = (n - (j + 1)) + 1 by omega, List.replicate_succ, List.set_append_right _ _ (by simp)]
  simp [List.range_succ]
theorem M.modelTo_length (n k j : Nat) (h : j ≤ n) : (M.modelTo n k j).length = n := by simp [M.modelTo]; omega
def M.models (n k : Nat) : List (List Bool) := (List.range k).map (M.model n)
theorem M.models_length (n k : Nat) : (M.models n k).length = k := by simp [M.models]
theorem M.models_succ (n k : Nat) : M.models n (k + 1) = M.models n k ++ [M.model n k] := by simp [M.models, List.range_succ]
theorem OwnR.made0 (w : World) (base : Nat) (hb : base ≤ w.heap.size) : OwnR (w.alloc (.cells #[] 55)) base (some ⟨w.heap.size, 0, none⟩) 0 [] :=
  ⟨[], World.ownsRow_made w #[] 0 hb (by decide) rfl, fun i m h => by simp at h⟩
def ModelsPost (w : World) (n N : Nat) (e : Ending) (w' : World) : Prop :=
  ∃ a c, e = .returned (.slice a N c) ∧ OwnR w' w.heap.size a c (M.models n N) ∧ Below w.heap.size w w'
theorem bit_at (k j : Nat) (hk : k ≤ 1000000) : (bits BinOp.and IntKind.i64 ((k : Int) / 2 ^ j) 1 == 1) = k.testBit j := by
  have e : ((k : Int) / 2 ^ j) = ((k / 2 ^ j : Nat) : Int) := by simp
  have hle : k / 2 ^ j ≤ k := Nat.div_le_self _ _
  rw [e, Go.Proofs.and_one _ (by omega), Nat.testBit_eq_decide_div_mod_eq, Bool.eq_iff_iff]
  simp only [beq_iff_eq, decide_eq_true_eq]
  omega
end Go.Proofs.YtgpifbhfnbkgoaaDoor

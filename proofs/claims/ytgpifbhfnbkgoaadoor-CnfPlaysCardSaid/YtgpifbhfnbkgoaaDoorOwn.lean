/- Slices of ints that the call itself has made: how they read, how they grow. -/
import Derived.Test.YtgpifbhfnbkgoaaDoorRead2
import Derived.Laws.AppendOwnNone
namespace Go.Proofs.YtgpifbhfnbkgoaaDoor
open Go.RowKit

theorem Tryd.infoInt : (Tryd.prog.info? 3).map (fun i => (i.zero, i.size, i.bytes)) = some (some (.int .i64 0), 1, 8) := by kernel_rfl

/-- a slice that the call made, from block number base on -/
def OwnI (w : World) (base : Nat) (a : Option Addr) (c : Nat) (ys : List Int) : Prop :=
  w.ownsRow base 3 1 (.slice a ys.length c) ys.length (ys.map (Value.int .i64))

theorem OwnI.nil (w : World) (base : Nat) : OwnI w base none 0 [] := World.ownsRow_nil _ _ _ _
theorem OwnI.parts {w : World} {base : Nat} {a : Option Addr} {c : Nat} {ys : List Int} (h : OwnI w base a c ys) :
    (a = none ∧ c = 0 ∧ ys = []) ∨ ∃ g cur, a = some ⟨g, 0, none⟩ ∧ base ≤ g ∧ g < w.heap.size ∧ w.heap[g]? = some (.cells cur 3 (0, 0)) ∧ ys.length ≤ c ∧ c ≤ maxLen ∧ cur.size = c ∧ cur.toList.take ys.length = ys.map (Value.int .i64) := by
  rcases h.2 with ⟨e, hn⟩ | ⟨g, cap, cur, e, hb, hg, hn, hm, hs, ht⟩
  · injection e with e1 e2 e3
    exact .inl ⟨e1, e3, List.eq_nil_of_length_eq_zero e2⟩
  · injection e with e1 e2 e3
    subst e1 e3
    have hlt : g < w.heap.size := by
      rcases Nat.lt_or_ge g w.heap.size with h' | h'
      · exact h'
      · rw [Array.getElem?_eq_none h'] at hg; cases hg
    exact .inr ⟨g, cur, rfl, hb, hlt, hg, hn, hm, by simpa using hs, by simpa using ht⟩
theorem cell_of_cells {w : World} {g : Nat} {cur : Array Value} {e : TypeId} {m : Nat × Nat} (hg : w.heap[g]? = some (.cells cur e m)) (i : Nat) : w.cell? ⟨g, i, none⟩ = cur[i]? := by
  simp [World.cell?, hg]
theorem OwnI.ints {w : World} {base : Nat} {a : Option Addr} {c : Nat} {ys : List Int} (h : OwnI w base a c ys) (hw : ∀ z ∈ ys, I64 z) (hl : ys.length ≤ 17592186043904) : Ints w a ys := by
  refine ⟨fun h0 => ?_, hw, hl⟩
  rcases h.parts with ⟨_, _, rfl⟩ | ⟨g, cur, rfl, hb, hlt, hg, hn, hm, hs, ht⟩
  · simp at h0
  · refine ⟨g, 0, rfl, hlt, fun i z hz => ?_⟩
    rw [Nat.zero_add, cell_of_cells hg]
    have hi : i < ys.length := by
      rcases Nat.lt_or_ge i ys.length with h' | h'
      · exact h'
      · rw [List.getElem?_eq_none h'] at hz; cases hz
    have e1 : (cur.toList.take ys.length)[i]? = (ys.map (Value.int .i64))[i]? := by rw [ht]
    rw [List.getElem?_take, if_pos hi, List.getElem?_map, hz, Array.getElem?_toList] at e1
    exact e1
/-- the block, if there is one -/
theorem OwnI.kept {w w' : World} {base : Nat} {a : Option Addr} {c : Nat} {ys : List Int} (h : OwnI w base a c ys) (hk : ∀ g cur, g < w.heap.size → w.heap[g]? = some (.cells cur 3 (0, 0)) → w'.heap[g]? = w.heap[g]?) : OwnI w' base a c ys := by
  refine ⟨h.1, ?_⟩
  rcases h.2 with h0 | ⟨g, cap, cur, e, hb, hg, hn, hm, hs, ht⟩
  · exact .inl h0
  · have hlt : g < w.heap.size := by
      rcases Nat.lt_or_ge g w.heap.size with h' | h'
      · exact h'
      · rw [Array.getElem?_eq_none h'] at hg; cases hg
    exact .inr ⟨g, cap, cur, e, hb, (hk g cur hlt hg).trans hg, hn, hm, hs, ht⟩
theorem OwnI.below {w w' : World} {base : Nat} {a : Option Addr} {c : Nat} {ys : List Int} (h : OwnI w base a c ys) (hb : Below w.heap.size w w') : OwnI w' base a c ys :=
  h.kept fun g _ hlt _ => hb.block g hlt
theorem OwnI.alloc {w : World} {base : Nat} {a : Option Addr} {c : Nat} {ys : List Int} (h : OwnI w base a c ys) (o : Obj) : OwnI (w.alloc o) base a c ys := World.ownsRow.alloc h o

theorem Ints.one (w : World) (x : Int) (hx : I64 x) (e : TypeId) : Ints (w.alloc (.cells #[.int .i64 x] e)) (some ⟨w.heap.size, 0, none⟩) [x] := by
  refine ⟨fun _ => ⟨_, 0, rfl, by simp, fun i z hz => ?_⟩, fun z hz => by simp at hz; subst hz; exact hx, by simp⟩
  match i, hz with
  | 0, hz => simp at hz; subst hz; simp
theorem Ints.nil (w : World) (a : Option Addr) : Ints w a [] := ⟨fun h => by simp at h, fun z hz => by simp at hz, by simp⟩
theorem Ints.alloc {w : World} {a : Option Addr} {zs : List Int} (h : Ints w a zs) (o : Obj) : Ints (w.alloc o) a zs := h.below ((Below.refl _ _).alloc (Nat.le_refl _) o)

theorem addr_add (b off j : Nat) : (⟨b, off, none⟩ : Addr).add j = ⟨b, off + j, none⟩ := by
  unfold Addr.add; split
  · rename_i h; subst h; simp
  · rfl
theorem ownBlock_ge {w : World} {base : Nat} {a : Option Addr} {c : Nat} {ys : List Int} (h : OwnI w base a c ys) : ∀ k n, (Value.slice a n c).ownBlock = some k → base ≤ k := by
  intro k n hk
  rcases h.parts with ⟨rfl, _, _⟩ | ⟨g, cur, rfl, hb, _⟩
  · simp [Value.ownBlock] at hk
  · simp [Value.ownBlock] at hk; omega
/-- append(ys, zs...) where the call made ys -/
theorem wpList_append_Ints {w : World} {ops : Array Oper} {rest : List Oper} {o : Oper} {act : Act} {Q : Exit → Act → World → Prop} (hgd : o.guard = none) (s x : Operand) (t : TypeId)
    (ho : o.op = .call { callee := .builtin .append, args := #[s, x], argTypes := #[t, t] }) (ht : Tryd.prog.underlying t = some (.slice 3))
    (base : Nat) (a : Option Addr) (n c : Nat) (ys : List Int) (hs : act.eval s = .slice a n c) (hn : ys.length = n) (hown : OwnI w base a c ys)
    (b : Option Addr) (m d : Nat) (zs : List Int) (hx : act.eval x = .slice b m d) (hm : zs.length = m) (hz : Ints w b zs) (hd : b = none → d = 0)
    (hlen : n + m ≤ 17592186043904) (hbase : base ≤ w.heap.size)
    (h : ∀ a' c' w', OwnI w' base a' c' (ys ++ zs) → w.grownBy w' (Value.slice a n c).ownBlock → Below base w w' → wpList Tryd.prog ops Q rest (act.put o.dst (.slice a' (n + m) c')) w') :
    wpList Tryd.prog ops Q (o :: rest) act w := by
  subst hn hm
  obtain ⟨i0, hi, hz0, hz1, hz2⟩ := info_parts Tryd.infoInt
  have fin : ∀ v' w', w'.ownsRow base 3 1 v' (ys.length + zs.length) (ys.map (Value.int .i64) ++ zs.map (Value.int .i64)) → w.grownBy w' (Value.slice a ys.length c).ownBlock → wpList Tryd.prog ops Q rest (act.put o.dst v') w' := by
    intro v' w' h1 h2
    have hbel : Below base w w' := (Below.refl base w).grown h2 hbase (fun k hk => ownBlock_ge hown k _ hk)
    rw [← List.map_append, ← List.length_append] at h1
    have : ∃ a' c', v' = .slice a' (ys ++ zs).length c' := by
      rcases h1.2 with ⟨e, hn⟩ | ⟨g, cap, cur, e, _⟩
      · exact ⟨none, 0, by rw [e, hn]⟩
      · exact ⟨_, _, e⟩
    obtain ⟨a', c', rfl⟩ := this
    rw [show (ys ++ zs).length = ys.length + zs.length from List.length_append]
    exact h a' c' w' h1 h2 hbel
  cases b with
  | some ad =>
    refine wpList_append_own w hgd s x t ho base 3 i0 (.int .i64 0) 1 8 ht hi hz0 hz1 hz2 rfl (by decide) _ _ _ hs hown ad zs.length d (zs.map (Value.int .i64)) hx (by simp) ?_ ?_ ?_ ?_ hbase ?_
    · intro j u hj
      have hjl : j < zs.length := by
        rcases Nat.lt_or_ge j zs.length with h' | h'
        · exact h'
        · rw [List.getElem?_eq_none (by simpa using h')] at hj; cases hj
      obtain ⟨b', off, e, _, hc⟩ := hz.addr (by omega)
      cases e
      rw [List.getElem?_map, List.getElem?_eq_getElem hjl] at hj
      cases hj
      rw [addr_add]; exact hc j _ (List.getElem?_eq_getElem hjl)
    · intro u hu; simp at hu; obtain ⟨z, _, rfl⟩ := hu; rfl
    · unfold maxLen; omega
    · omega
    · intro v' w' h1 h2 _
      exact fin v' w' h1 h2
  | none =>
    have e0 : zs = [] := by
      cases zs with
      | nil => rfl
      | cons z l => obtain ⟨_, _, e, _⟩ := hz.addr (by simp); cases e
    subst e0
    obtain rfl := hd rfl
    refine wpList_append_own_none hgd s x t ho base 3 i0 1 ht hi _ _ _ hs hown hx ?_
    refine fin _ _ ?_ ⟨rfl, rfl, rfl, Nat.le_refl _, fun _ _ _ => rfl⟩
    have h' : w.ownsRow base 3 1 (.slice a ys.length c) ys.length (ys.map (Value.int .i64)) := hown
    simpa using h'
theorem OwnI.made0 (w : World) (base : Nat) (hb : base ≤ w.heap.size) : OwnI (w.alloc (.cells #[] 3)) base (some ⟨w.heap.size, 0, none⟩) 0 [] :=
  World.ownsRow_made w #[] 0 hb (by decide) rfl
theorem OwnI.cap {w : World} {base : Nat} {a : Option Addr} {c : Nat} {ys : List Int} (h : OwnI w base a c ys) : ys.length ≤ c ∧ (a = none → c = 0) := by
  rcases h.parts with ⟨rfl, rfl, rfl⟩ | ⟨g, cur, rfl, hb, hlt, hg, hn, hm, hs, ht⟩
  · exact ⟨Nat.le_refl _, fun _ => rfl⟩
  · exact ⟨hn, fun h => by cases h⟩

theorem put_below1 {w w1 : World} {o : Obj} (h : Below w.heap.size (w.alloc o) w1) : Below w.heap.size w w1 := ((Below.refl _ _).alloc (Nat.le_refl _) o).trans h
theorem put_size1 {w w1 : World} {o : Obj} (h : Below w.heap.size w w1) : w.heap.size ≤ (w1.alloc o).heap.size := by have := h.size; simp; omega
theorem put_below2 {w w1 w2 : World} {o : Obj} (h : Below w.heap.size w w1) (h2 : Below w.heap.size (w1.alloc o) w2) : Below w.heap.size w w2 := (h.alloc h.size o).trans h2
/-- a new list is handed back; nothing that was there has turned -/
def NewInts (w : World) (ys : List Int) (e : Ending) (w' : World) : Prop :=
  ∃ a' c', e = .returned (.slice a' ys.length c') ∧ Ints w' a' ys ∧ (ys.length ≤ c') ∧ (a' = none → c' = 0) ∧ Below w.heap.size w w'
/-- it lies among ints -/
def TagI (w : World) (a : Option Addr) : Prop := ∀ ad, a = some ad → ∃ cur m, w.heap[ad.block]? = some (.cells cur 3 m)
theorem TagI.none (w : World) : TagI w none := fun _ h => by cases h
theorem TagI.below {w w' : World} {a : Option Addr} (h : TagI w a) (hb : Below w.heap.size w w') : TagI w' a := fun ad e => by
  obtain ⟨cur, m, hc⟩ := h ad e
  exact ⟨cur, m, (hb.block _ (Array.getElem?_eq_some_iff.1 hc).1).trans hc⟩
/-- blocks that are there -/
def XLt (X : Nat → Prop) (w : World) : Prop := ∀ k, X k → k < w.heap.size
theorem XLt.mono {X : Nat → Prop} {w w' : World} (h : XLt X w) (hs : w.heap.size ≤ w'.heap.size) : XLt X w' := fun k hk => Nat.lt_of_lt_of_le (h k hk) hs
/-- it lies in no block of X -/
def OffX (X : Nat → Prop) (a : Option Addr) : Prop := ∀ ad, a = some ad → ¬ X ad.block
theorem OffX.none (X : Nat → Prop) : OffX X Option.none := fun _ h => by cases h
/-- no block -/
def NoX : Nat → Prop := fun _ => False
theorem NoX.lt (w : World) : XLt NoX w := fun _ h => h.elim
theorem NoX.off (a : Option Addr) : OffX NoX a := fun _ _ h => h
/-- it lies among ints, in no block of X -/
structure TagX (X : Nat → Prop) (w : World) (a : Option Addr) : Prop where
  off : OffX X a
  tag : TagI w a
theorem TagX.below {X : Nat → Prop} {w w' : World} {a : Option Addr} (h : TagX X w a) (hb : Below w.heap.size w w') : TagX X w' a := ⟨h.off, h.tag.below hb⟩
/-- it lies among ints, from block number n on -/
structure TagN (n : Nat) (w : World) (a : Option Addr) : Prop where
  new : ∀ ad, a = some ad → n ≤ ad.block
  tag : TagI w a
theorem TagN.none (n : Nat) (w : World) : TagN n w Option.none := ⟨(fun _ h => by cases h), TagI.none _⟩
theorem TagN.x {X : Nat → Prop} {w0 w : World} {a : Option Addr} (h : TagN w0.heap.size w a) (hX : XLt X w0) : TagX X w a := ⟨fun ad e hx => by have := h.new ad e; have := hX _ hx; omega, h.tag⟩
theorem TagN.below {n : Nat} {w w' : World} {a : Option Addr} (h : TagN n w a) (hb : Below w.heap.size w w') : TagN n w' a := ⟨h.new, h.tag.below hb⟩
theorem OwnI.tagN {w : World} {base c : Nat} {a : Option Addr} {ys : List Int} (h : OwnI w base a c ys) : TagN base w a := by
  refine ⟨fun ad e => ?_, fun ad e => ?_⟩
  · rcases h.parts with ⟨e0, _⟩ | ⟨g, cur, e0, hb, _⟩
    · rw [e0] at e; cases e
    · rw [e0] at e; cases e; exact hb
  · rcases h.parts with ⟨e0, _⟩ | ⟨g, cur, e0, hb, hlt, hg, _⟩
    · rw [e0] at e; cases e
    · rw [e0] at e; cases e; exact ⟨cur, _, hg⟩
/-- a new list is handed back, among ints -/
def NewIntsT (w : World) (ys : List Int) (e : Ending) (w' : World) : Prop :=
  ∃ a' c', e = .returned (.slice a' ys.length c') ∧ Ints w' a' ys ∧ (ys.length ≤ c') ∧ (a' = Option.none → c' = 0) ∧ Below w.heap.size w w' ∧ TagN w.heap.size w' a'
theorem sizeInt (w : World) : (sizeOf 3).run Tryd.prog w = .ok 1 w := by kernel_rfl
/-- s[k:] -/
theorem slice_from {w : World} (t : TypeId) (ht : Tryd.prog.underlying t = some (.slice 3)) {a : Option Addr} {zs : List Int} (c k : Nat) (hz : Ints w a zs) (hk : k ≤ zs.length) (hc : zs.length ≤ c) (hd : a = none → c = 0) :
    ∃ a', (∀ wx, (Instr.slice t (.slice a zs.length c) (some (.int .i64 k)) none none).run Tryd.prog wx = .ok (.slice a' (zs.length - k) (c - k)) wx) ∧ Ints w a' (zs.drop k) ∧ (a' = none → c - k = 0) := by
  have he : Tryd.prog.elem t = 3 := by simp [Program.elem, ht]
  refine ⟨if c = k then a else a.map (·.add k), fun wx => ?_, ⟨fun h0 => ?_, fun z hz' => hz.wf z (List.mem_of_mem_drop hz'), by have := hz.len; simp; omega⟩, fun h => ?_⟩
  · rw [run_slice_l wx t a zs.length c (by rw [he]; exact ht) .i64 k (by omega) (by omega), he, sizeInt]
    simp [Result.andThen, sliced]
  · have h1 : 0 < zs.length := by simp at h0; omega
    obtain ⟨b, off, rfl, hlt, hcell⟩ := hz.addr h1
    have hne : c ≠ k := by simp at h0; omega
    refine ⟨b, off + k, by rw [if_neg hne]; simp [addr_add], hlt, fun i z hi => ?_⟩
    rw [List.getElem?_drop] at hi
    have := hcell _ _ hi
    rwa [← Nat.add_assoc] at this
  · split at h
    · omega
    · have : a = none := by cases a <;> simp_all
      have := hd this; omega
/-- s[:k] -/
theorem slice_to {w : World} (t : TypeId) (ht : Tryd.prog.underlying t = some (.slice 3)) {a : Option Addr} {zs : List Int} (c k : Nat) (hz : Ints w a zs) (hk : k ≤ zs.length) (hc : zs.length ≤ c) (hd : a = none → c = 0) :
    (∀ wx, (Instr.slice t (.slice a zs.length c) none (some (.int .i64 k)) none).run Tryd.prog wx = .ok (.slice a k c) wx) ∧ Ints w a (zs.take k) := by
  have he : Tryd.prog.elem t = 3 := by simp [Program.elem, ht]
  refine ⟨fun wx => ?_, ⟨fun h0 => ?_, fun z hz' => hz.wf z (List.mem_of_mem_take hz'), by have := hz.len; simp; omega⟩⟩
  · rw [run_slice_h wx t a zs.length c (by rw [he]; exact ht) .i64 k (by omega) (by omega), he, sizeInt]
    cases a with
    | none => have := hd rfl; simp [Result.andThen, sliced]
    | some a => simp [Result.andThen, sliced, Addr.add]
  · have h1 : 0 < zs.length := by simp at h0; omega
    obtain ⟨b, off, rfl, hlt, hcell⟩ := hz.addr h1
    refine ⟨b, off, rfl, hlt, fun i z hi => hcell i z ?_⟩
    rw [List.getElem?_take] at hi
    split at hi
    · exact hi
    · cases hi
end Go.Proofs.YtgpifbhfnbkgoaaDoor

/- The adder's memory: columns of literals beside a formula; append onto a column. -/
import Derived.Test.YtllkeojkejbbeaaDoorTurn
import Derived.Test.YtllkeojkejbbeaaDoorOwnAt
import Derived.Test.YtllkeojkejbbeaaDoorXor
import Derived.Test.YtllkeojkejbbeaaDoorSMath
import Derived.ArgAppend
namespace Go.Proofs.YtllkeojkejbbeaaDoor
open Go.RowKit Go.Shelf
variable {X : Nat → Prop} {Zb : Option (Nat × Array Value)}

/-- a list of ints somewhere in a block of ints from block number base on -/
def ColI (w : World) (base : Nat) (a : Option Addr) (c : Nat) (x : List Int) : Prop :=
  (a = none ∧ c = 0 ∧ x = []) ∨ ∃ b off cur, a = some ⟨b, off, none⟩ ∧ base ≤ b ∧ w.heap[b]? = some (.cells cur 3 (0, 0)) ∧ x.length ≤ c ∧ off + c ≤ cur.size ∧
    ∀ (i : Nat) (z : Int), x[i]? = some z → cur[off + i]? = some (.int .i64 z)
theorem ColI.same {w w' : World} {base : Nat} {a : Option Addr} {c : Nat} {x : List Int} (h : ColI w base a c x) (key : ∀ ad, a = some ad → w'.heap[ad.block]? = w.heap[ad.block]?) : ColI w' base a c x := by
  rcases h with h | ⟨b, off, cur, rfl, h1, h2, h3⟩
  · exact .inl h
  · exact .inr ⟨b, off, cur, rfl, h1, (key _ rfl).trans h2, h3⟩
theorem ColI.blk {w : World} {base : Nat} {a : Option Addr} {c : Nat} {x : List Int} (h : ColI w base a c x) : ∀ ad, a = some ad → base ≤ ad.block ∧ ∃ cur, w.heap[ad.block]? = some (.cells cur 3 (0, 0)) := by
  intro ad e
  rcases h with ⟨e2, _⟩ | ⟨b, off, cur, e2, h1, h2, _⟩
  · rw [e2] at e; cases e
  · rw [e2] at e; cases e; exact ⟨h1, cur, h2⟩
theorem ColI.lt {w : World} {base : Nat} {a : Option Addr} {c : Nat} {x : List Int} (h : ColI w base a c x) : ∀ ad, a = some ad → ad.block < w.heap.size := fun ad e => by
  obtain ⟨_, cur, hc⟩ := h.blk ad e
  exact (Array.getElem?_eq_some_iff.1 hc).1
theorem ColI.below {w w' : World} {base : Nat} {a : Option Addr} {c : Nat} {x : List Int} (h : ColI w base a c x) (hb : Below w.heap.size w w') : ColI w' base a c x :=
  h.same fun ad e => hb.block _ (h.lt ad e)
theorem ColI.cap {w : World} {base : Nat} {a : Option Addr} {c : Nat} {x : List Int} (h : ColI w base a c x) : x.length ≤ c ∧ (a = none → c = 0) := by
  rcases h with ⟨h1, h2, rfl⟩ | ⟨b, off, cur, rfl, _, _, h3, _⟩
  · exact ⟨by simp, fun _ => h2⟩
  · exact ⟨h3, fun e => by cases e⟩
theorem ColI.cells {w : World} {base : Nat} {a : Option Addr} {c : Nat} {x : List Int} (h : ColI w base a c x) (h0 : 0 < x.length) : ∃ b off, a = some ⟨b, off, none⟩ ∧ b < w.heap.size ∧ ∀ (i : Nat) (z : Int), x[i]? = some z → w.cell? ⟨b, off + i, none⟩ = some (.int .i64 z) := by
  rcases h with ⟨_, _, rfl⟩ | ⟨b, off, cur, rfl, _, h2, _, _, h5⟩
  · simp at h0
  · exact ⟨b, off, rfl, (Array.getElem?_eq_some_iff.1 h2).1, fun i z hz => by rw [cell_of_cells h2]; exact h5 i z hz⟩
theorem ColI.ints {w : World} {base : Nat} {a : Option Addr} {c : Nat} {x : List Int} (h : ColI w base a c x) (hw : ∀ z ∈ x, I64 z) (hl : x.length ≤ 17592186043904) : Ints w a x :=
  ⟨fun h0 => h.cells h0, hw, hl⟩
/-- where x[k:] lies -/
def fromAddr (a : Option Addr) (c k : Nat) : Option Addr := if c = k then a else a.map (·.add k)
/-- x[k:] -/
theorem ColI.from {w : World} {base : Nat} {a : Option Addr} {c : Nat} {x : List Int} (h : ColI w base a c x) (k : Nat) (hk : k ≤ x.length) :
    (∀ wx, (Instr.slice 30 (.slice a x.length c) (some (.int .i64 k)) none none).run Tryd.prog wx = .ok (.slice (fromAddr a c k) (x.length - k) (c - k)) wx) ∧ ColI w base (fromAddr a c k) (c - k) (x.drop k) ∧ (∀ ad', fromAddr a c k = some ad' → ∃ ad, a = some ad ∧ ad.block = ad'.block) := by
  unfold fromAddr
  have ht : Tryd.prog.underlying 30 = some (.slice 3) := Tryd.underlying30
  have he : Tryd.prog.elem 30 = 3 := by simp [Program.elem, ht]
  obtain ⟨hc, hn⟩ := h.cap
  refine ⟨fun wx => ?_, ?_, ?_⟩
  · rw [run_slice_l wx 30 a x.length c (by rw [he]; exact ht) .i64 k (by omega) (by omega), he, sizeInt]
    simp [Result.andThen, sliced]
  · rcases h with ⟨rfl, rfl, rfl⟩ | ⟨b, off, cur, rfl, h1, h2, h3, h4, h5⟩
    · exact .inl ⟨by simp, by simp, by simp⟩
    · by_cases e : c = k
      · subst e
        rw [if_pos rfl]
        exact .inr ⟨b, off, cur, rfl, h1, h2, by simp; omega, by omega, fun i z hz => by
          have : x.length ≤ c := h3
          rw [List.drop_eq_nil_of_le this] at hz; simp at hz⟩
      · rw [if_neg e]
        refine .inr ⟨b, off + k, cur, by simp [addr_add], h1, h2, by simp; omega, by omega, fun i z hz => ?_⟩
        rw [List.getElem?_drop] at hz
        have := h5 _ _ hz
        rwa [← Nat.add_assoc] at this
  · intro ad' e
    split at e
    · exact ⟨ad', e, rfl⟩
    · cases a with
      | none => simp at e
      | some ad => simp at e; subst e; exact ⟨ad, rfl, by unfold Addr.add; split <;> rfl⟩
def blkOf (a : Option Addr) : Option Nat := (Value.slice a 0 0).ownBlock
theorem ColI.of_row {w : World} {base n : Nat} {v : Value} {ys : List Int} (h : w.ownsRow base 3 1 v n (ys.map (Value.int .i64))) (hn : ys.length = n) (h0 : 0 < n) : ∃ a c, v = .slice a n c ∧ ColI w base a c ys ∧ ∀ ad, a = some ad → base ≤ ad.block := by
  subst hn
  rcases h.2 with ⟨_, hz⟩ | ⟨g, cap, cur, e, hb, hg, hn, hm, hs, ht⟩
  · omega
  · refine ⟨_, _, e, .inr ⟨g, 0, cur, rfl, hb, hg, hn, by simp at hs; omega, fun i z hz => ?_⟩, fun ad e => by cases e; exact hb⟩
    have hi : i < ys.length := (List.getElem?_eq_some_iff.1 hz).1
    have e1 : (cur.toList.take (ys.length * 1))[i]? = (ys.map (Value.int .i64))[i]? := by rw [ht]
    rw [Nat.mul_one, List.getElem?_take, if_pos hi, List.getElem?_map, hz, Array.getElem?_toList] at e1
    rw [Nat.zero_add]; exact e1
theorem setCell_blk {w : World} {b o : Nat} {cur : Array Value} {t : TypeId} {m : Nat × Nat} (hg : w.heap[b]? = some (.cells cur t m)) (v : Value) : (w.setCell ⟨b, o, none⟩ v).heap[b]? = some (.cells (cur.setIfInBounds o v) t m) := by
  simp [World.setCell, Array.getElem?_modify, hg]
/-- what an append onto a column gives -/
def ColPut (w : World) (base : Nat) (a : Option Addr) (ys : List Int) (a' : Option Addr) (c' : Nat) (w' : World) : Prop :=
  ColI w' base a' c' ys ∧ w.grownBy w' (blkOf a) ∧ ∀ ad', a' = some ad' → (∃ ad, a = some ad ∧ ad.block = ad'.block) ∨ w.heap.size ≤ ad'.block
theorem run_append_col {w : World} {base : Nat} {a : Option Addr} {c : Nat} {x : List Int} (h : ColI w base a c x) (y : Int) (ad : Addr) (hz : w.cell? ad = some (.int .i64 y)) (hl : x.length ≤ 1000000) (hbase : base ≤ w.heap.size) (ty : TypeId) :
    ∃ a' c' w', (Builtin.append_ #[30, 30] ty #[.slice a x.length c, .slice (some ad) 1 1]).run Tryd.prog w = .ok (.slice a' (x.length + 1) c') w' ∧ ColPut w base a (x ++ [y]) a' c' w' := by
  obtain ⟨i0, hi, hz0, hz1, hz2⟩ := info_parts Tryd.infoInt
  have ht := Tryd.underlying30
  have hnews : ∀ (j : Nat) (u : Value), [Value.int .i64 y][j]? = some u → w.cell? (ad.add j) = some u := by
    intro j u hj
    match j, hj with
    | 0, hj => simp at hj; subst hj; exact hz
  have hone : ∀ u ∈ [Value.int .i64 y], u.oneCell' = true := by intro u hu; simp at hu; subst hu; rfl
  rcases h with ⟨rfl, rfl, rfl⟩ | ⟨b, off, cur, rfl, h1, h2, h3, h4, h5⟩
  · obtain ⟨v', w', hrun, r1, r2, _⟩ := run_append_own (P := Tryd.prog) w w.heap.size 30 ty 3 i0 (.int .i64 0) 1 8 ht hi hz0 hz1 hz2 rfl (by decide) (.slice none 0 0) 0 [] (World.ownsRow_nil w _ _ _) ad 1 1 [.int .i64 y] rfl hnews hone (by unfold maxLen; omega) (by omega) (Nat.le_refl _)
    obtain ⟨a', c', rfl, q1, q2⟩ := ColI.of_row (ys := [y]) (n := 0 + 1) (by simpa using r1) rfl (by omega)
    refine ⟨a', c', w', hrun, ?_, r2, fun ad' e => .inr (q2 ad' e)⟩
    rcases q1 with ⟨_, _, e⟩ | ⟨b, off, cur, e, hb, q⟩
    · simp at e
    · exact .inr ⟨b, off, cur, e, by omega, q⟩
  · by_cases hr : x.length + 1 ≤ c
    · have hlt : off + x.length < cur.size := by omega
      have hcell : ∀ j, j < [Value.int .i64 y].length → (w.cell? ⟨b, off + x.length * i0.size + j, none⟩).isSome = true := by
        intro j hj
        rw [cell_of_cells h2, hz1]
        simp at hj; subst hj
        simp [hlt]
      have hfr : ∀ j, j < [Value.int .i64 y].length → w.frozen? ⟨b, off + x.length * i0.size + j, none⟩ = false := by
        intro j _
        simp [World.frozen?, h2]
      have hrun := run_append_room_cells (P := Tryd.prog) w 30 ty 3 i0 ht hi b off x.length c ad 1 1 [.int .i64 y] (by rw [hz1]; rfl) hnews hone hr hcell hfr
      refine ⟨_, _, _, hrun, ?_⟩
      rw [hz1, Nat.mul_one]
      show ColPut w base _ _ _ _ (w.setCell ⟨b, off + x.length, none⟩ (.int .i64 y))
      refine ⟨.inr ⟨b, off, _, rfl, h1, setCell_blk h2 _, by simpa using hr, by simpa using h4, fun i z hi => ?_⟩, ⟨rfl, rfl, rfl, by simp [World.setCell], fun k _ hk => Below.heap_setCell _ _ _ _ (fun e => hk (by rw [show k = b from e]; rfl))⟩, fun ad' e => .inl ⟨_, rfl, by cases e; rfl⟩⟩
      by_cases hil : i < x.length
      · rw [List.getElem?_append_left hil] at hi
        rw [Array.getElem?_setIfInBounds_ne (by omega)]
        exact h5 i z hi
      · have hie : i = x.length := by
          have := (List.getElem?_eq_some_iff.1 hi).1
          simp at this; omega
        subst hie
        simp at hi; subst hi
        rw [Array.getElem?_setIfInBounds_self]; simp [hlt]
    · obtain ⟨v', w', hrun, r1, r2⟩ := run_append_arg_grows (P := Tryd.prog) w 30 ty 3 i0 (.int .i64 0) 1 8 ht hi hz0 hz1 hz2 rfl (by decide) ⟨b, off, none⟩ x.length c (x.map (Value.int .i64)) (by simp) (by
        intro j u hj
        rw [List.getElem?_map] at hj
        cases hxj : x[j]? with
        | none => rw [hxj] at hj; cases hj
        | some z =>
          rw [hxj] at hj; cases hj
          rw [addr_add, cell_of_cells h2]
          exact h5 j z hxj) ad 1 1 [.int .i64 y] rfl hnews (by omega) (by unfold maxLen; omega) (by omega)
      obtain ⟨a', c', rfl, q1, q2⟩ := ColI.of_row (ys := x ++ [y]) (n := x.length + 1) (by simpa using r1) (by simp) (by omega)
      refine ⟨a', c', w', hrun, ?_, ⟨r2.os, r2.tape, r2.output, r2.size, fun k hk _ => r2.block k hk (by simp)⟩, fun ad' e => .inr (q2 ad' e)⟩
      rcases q1 with ⟨_, _, e⟩ | ⟨b', off', cur', e, hb, q⟩
      · simp at e
      · exact .inr ⟨b', off', cur', e, by omega, q⟩
/-- append(col, y) in a region that draws its order -/
theorem step_append_col {w : World} {ops : Array Oper} {o : Oper} {act : Act} {K : Act → World → Prop} {Q : Exit → Act → World → Prop} {E : Prop} (hgd : o.guard = none) (s x : Operand)
    (ho : o.op = .call { callee := .builtin .append, args := #[s, x], argTypes := #[30, 30] })
    (base : Nat) (a : Option Addr) (n c : Nat) (ys : List Int) (hs : act.eval s = .slice a n c) (hn : ys.length = n) (hcol : ColI w base a c ys)
    (ad : Addr) (z : Int) (hx : act.eval x = .slice (some ad) 1 1) (hz : w.cell? ad = some (.int .i64 z)) (hlen : n ≤ 1000000) (hbase : base ≤ w.heap.size)
    (h : ∀ a' c' w', ColPut w base a (ys ++ [z]) a' c' w' → K (act.put o.dst (.slice a' (n + 1) c')) w') :
    if Region.wanted o (yielded ops act.tmps) = true then Oper.wp Tryd.prog o act w K Q else E := by
  have hw : Region.wanted o (yielded ops act.tmps) = true := by simp [Region.wanted, hgd]
  rw [if_pos hw]
  subst hn
  obtain ⟨a', c', w', hr, hp⟩ := run_append_col hcol z ad hz hlen hbase o.type
  unfold Oper.wp execOp
  simp only [ho, resolve, invoke, builtin, Sem.run_bind, Sem.run_pure, Result.andThen_ok, List.map_toArray, List.map_cons, List.map_nil, hs, hx, hr]
  exact h a' c' w' hp

/-- the blocks of X, that of Zb, and those of the columns -/
def XC (X : Nat → Prop) (Zb : Option (Nat × Array Value)) (vals : List Value) : Nat → Prop := fun k => (X k ∨ ∃ v, Zb = some (k, v)) ∨ ∃ (i : Nat) (ad : Addr) (n c : Nat), vals[i]? = some (.slice (some ad) n c) ∧ ad.block = k
/-- an adder at block q over the formula at block p, its columns in row g -/
structure AS (X : Nat → Prop) (Zb : Option (Nat × Array Value)) (w0 : World) (base p V q g : Nat) (gs : List M.G) (cols : List (List Int)) (vals : List Value) (w : World) : Prop where
  kp : Kp X base w0 w
  hb : base ≤ w0.heap.size
  fm : ∃ a c, Fm (XC X Zb vals) w base p (V + gs.length) (M.gatesC V gs) a c
  box : w.heap[q]? = some (.cells #[.pointer (some ⟨p, 0, none⟩), .slice (some ⟨g, 0, none⟩) cols.length cols.length] 103 (0, 0))
  row : w.heap[g]? = some (.cells vals.toArray 30 (0, 0))
  vl : vals.length = cols.length
  col : ∀ (i : Nat) (x : List Int), cols[i]? = some x → ∃ a c, vals[i]? = some (.slice a x.length c) ∧ ColI w w0.heap.size a c x
  apart : ∀ (i j : Nat) (ad ad' : Addr) (n c n' c' : Nat), vals[i]? = some (.slice (some ad) n c) → vals[j]? = some (.slice (some ad') n' c') → ad.block = ad'.block → i = j
  q0 : w0.heap.size ≤ q
  g0 : w0.heap.size ≤ g
  pb : ∀ k v, Zb = some (k, v) → w.heap[k]? = some (.cells v 3 (0, 0)) ∧ ∀ (i : Nat) (ad : Addr) (n c : Nat), vals[i]? = some (.slice (some ad) n c) → ad.block ≠ k
section
variable {w0 w w' : World} {base p V q g : Nat} {gs gs' : List M.G} {cols : List (List Int)} {vals : List Value}
theorem AS.colAt (h : AS X Zb w0 base p V q g gs cols vals w) {i : Nat} {ad : Addr} {n c : Nat} (hv : vals[i]? = some (.slice (some ad) n c)) : w0.heap.size ≤ ad.block ∧ ∃ cur, w.heap[ad.block]? = some (.cells cur 3 (0, 0)) := by
  have hi : i < cols.length := by rw [← h.vl]; exact (List.getElem?_eq_some_iff.1 hv).1
  obtain ⟨a, c', h1, h2⟩ := h.col i cols[i] (List.getElem?_eq_getElem hi)
  rw [h1] at hv
  injection hv with hv
  injection hv with e1
  exact h2.blk ad e1
theorem AS.qlt (h : AS X Zb w0 base p V q g gs cols vals w) : q < w.heap.size := (Array.getElem?_eq_some_iff.1 h.box).1
theorem AS.glt (h : AS X Zb w0 base p V q g gs cols vals w) : g < w.heap.size := (Array.getElem?_eq_some_iff.1 h.row).1
theorem AS.cells (h : AS X Zb w0 base p V q g gs cols vals w) : w.cell? ⟨q, 0, none⟩ = some (.pointer (some ⟨p, 0, none⟩)) ∧ w.cell? ⟨q, 1, none⟩ = some (.slice (some ⟨g, 0, none⟩) cols.length cols.length) :=
  ⟨by rw [cell_of_cells h.box]; rfl, by rw [cell_of_cells h.box]; rfl⟩
theorem AS.cell (h : AS X Zb w0 base p V q g gs cols vals w) {i : Nat} {v : Value} (hv : vals[i]? = some v) : w.cell? ⟨g, i, none⟩ = some v ∧ w.frozen? ⟨g, i, none⟩ = false :=
  ⟨by rw [cell_of_cells h.row]; simpa using hv, by simp [World.frozen?, h.row]⟩
theorem AS.below (h : AS X Zb w0 base p V q g gs cols vals w) (hb : Below w.heap.size w w') : AS X Zb w0 base p V q g gs cols vals w' := by
  obtain ⟨a, c, hF⟩ := h.fm
  refine ⟨h.kp.trans (Kp.of_below hb), h.hb, ⟨a, c, hF.below hb⟩, (hb.block _ h.qlt).trans h.box, (hb.block _ h.glt).trans h.row, h.vl, fun i x hx => ?_, h.apart, h.q0, h.g0, fun k v e => ⟨(hb.block _ (Array.getElem?_eq_some_iff.1 (h.pb k v e).1).1).trans (h.pb k v e).1, (h.pb k v e).2⟩⟩
  obtain ⟨a1, c1, h1, h2⟩ := h.col i x hx
  exact ⟨a1, c1, h1, h2.below hb⟩
theorem Kp.weak {Y : Nat → Prop} {w w' : World} (h : Kp Y base w w') (hX : ∀ k, X k → Y k) : Kp X base w w' :=
  ⟨h.os, h.tape, h.output, h.size, fun k hk ho => h.block k hk (by
    rcases ho with h1 | h1 | h1
    · exact .inl h1
    · exact .inr (.inl (hX k h1))
    · exact .inr (.inr h1))⟩
/-- the formula goes on -/
theorem AS.gate (h : AS X Zb w0 base p V q g gs cols vals w) (hp : FmPost (XC X Zb vals) w base p (V + gs'.length) (M.gatesC V gs') w') : AS X Zb w0 base p V q g gs' cols vals w' := by
  obtain ⟨a, c, hF, hk⟩ := hp
  have key : ∀ (k : Nat) (cur : Array Value) (e : TypeId) (m : Nat × Nat), w.heap[k]? = some (.cells cur e m) → e ≠ 83 → e ≠ 85 → w'.heap[k]? = w.heap[k]? := fun k cur e m hc h1 h2 =>
    hk.block k (Array.getElem?_eq_some_iff.1 hc).1 (.inr (.inr ⟨cur, e, m, hc, h1, h2⟩))
  refine ⟨h.kp.trans (hk.weak fun k hX => .inl (.inl hX)), h.hb, ⟨a, c, hF⟩, (key _ _ _ _ h.box (by decide) (by decide)).trans h.box, (key _ _ _ _ h.row (by decide) (by decide)).trans h.row, h.vl, fun i x hx => ?_, h.apart, h.q0, h.g0, fun k v e => ⟨(key _ _ _ _ (h.pb k v e).1 (by decide) (by decide)).trans (h.pb k v e).1, (h.pb k v e).2⟩⟩
  obtain ⟨a1, c1, h1, h2⟩ := h.col i x hx
  refine ⟨a1, c1, h1, h2.same fun ad e => ?_⟩
  obtain ⟨_, cur, hc⟩ := h2.blk ad e
  exact key _ _ _ _ hc (by decide) (by decide)
/-- a column was appended to, and laid in -/
theorem AS.put (h : AS X Zb w0 base p V q g gs cols vals w) {i : Nat} {a a1 a2 : Option Addr} {n c c2 : Nat} {y : List Int} {w1 : World} (hv : vals[i]? = some (.slice a n c)) (h1 : ∀ ad1, a1 = some ad1 → ∃ ad, a = some ad ∧ ad.block = ad1.block)
    (hp : ColPut w w0.heap.size a1 y a2 c2 w1) :
    AS X Zb w0 base p V q g gs (cols.set i y) (vals.set i (.slice a2 y.length c2)) (w1.setCell ⟨g, i, none⟩ (.slice a2 y.length c2)) := by
  obtain ⟨hc, hg, hl⟩ := hp
  have hi : i < vals.length := (List.getElem?_eq_some_iff.1 hv).1
  have hin : ∀ k, blkOf a1 = some k → ∃ ad, a = some ad ∧ ad.block = k := by
    intro k e
    cases a1 with
    | none => simp [blkOf, Value.ownBlock] at e
    | some ad1 =>
      obtain ⟨ad, e1, e2⟩ := h1 ad1 rfl
      simp [blkOf, Value.ownBlock] at e
      exact ⟨ad, e1, e2.trans e⟩
  have hint : ∀ k, blkOf a1 = some k → w0.heap.size ≤ k ∧ ∃ cur, w.heap[k]? = some (.cells cur 3 (0, 0)) := by
    intro k e
    obtain ⟨ad, rfl, rfl⟩ := hin k e
    exact h.colAt hv
  have key : ∀ k, k < w.heap.size → some k ≠ blkOf a1 → k ≠ g → (w1.setCell ⟨g, i, none⟩ (.slice a2 y.length c2)).heap[k]? = w.heap[k]? := fun k hk h2 h3 =>
    (Below.heap_setCell _ _ _ _ h3).trans (hg.block k hk h2)
  have hsz : (w1.setCell ⟨g, i, none⟩ (.slice a2 y.length c2)).heap.size = w1.heap.size := by simp [World.setCell]
  have hne : ∀ (k : Nat) (cur : Array Value) (e : TypeId) (m : Nat × Nat), w.heap[k]? = some (.cells cur e m) → e ≠ 3 → some k ≠ blkOf a1 := fun k cur e m hc hne e1 => by
    obtain ⟨_, cur', hc'⟩ := hint k e1.symm
    rw [hc] at hc'; cases hc'; exact hne rfl
  have hgne : ∀ (k : Nat) (cur : Array Value) (e : TypeId) (m : Nat × Nat), w.heap[k]? = some (.cells cur e m) → e ≠ 30 → k ≠ g := fun k cur e m hc hne e1 => by
    subst e1; rw [h.row] at hc; cases hc; exact hne rfl
  have hrow1 : w1.heap[g]? = some (.cells vals.toArray 30 (0, 0)) := (hg.block g h.glt (hne _ _ _ _ h.row (by decide))).trans h.row
  have hcol2 : ColI (w1.setCell ⟨g, i, none⟩ (.slice a2 y.length c2)) w0.heap.size a2 c2 y := hc.same fun ad e => Below.heap_setCell _ _ _ _ (fun e1 => by
    obtain ⟨_, cur, hcc⟩ := hc.blk ad e
    rw [show ad.block = g from e1, hrow1] at hcc; cases hcc)
  obtain ⟨a0, c0, hF⟩ := h.fm
  have hnew : ∀ (j : Nat) (ad : Addr) (n' c' : Nat), (vals.set i (.slice a2 y.length c2))[j]? = some (.slice (some ad) n' c') → (j ≠ i ∧ vals[j]? = some (.slice (some ad) n' c')) ∨ (j = i ∧ a2 = some ad) := by
    intro j ad n' c' hj
    by_cases hji : j = i
    · subst hji
      rw [List.getElem?_set_self hi] at hj
      injection hj with hj
      injection hj with e1
      exact .inr ⟨rfl, e1⟩
    · rw [List.getElem?_set_ne (fun e => hji e.symm)] at hj
      exact .inl ⟨hji, hj⟩
  have hold : ∀ ad, a2 = some ad → (∃ ad', a = some ad' ∧ ad'.block = ad.block) ∨ w.heap.size ≤ ad.block := by
    intro ad e
    rcases hl ad e with ⟨ad1, e1, e2⟩ | h2
    · obtain ⟨ad', e3, e4⟩ := h1 ad1 e1
      exact .inl ⟨ad', e3, e4.trans e2⟩
    · exact .inr h2
  have hXX : ∀ k, XC X Zb (vals.set i (.slice a2 y.length c2)) k → XC X Zb vals k ∨ w.heap.size ≤ k := by
    rintro k (hx | ⟨j, ad, n', c', hj, rfl⟩)
    · exact .inl (.inl hx)
    · rcases hnew j ad n' c' hj with ⟨_, hj⟩ | ⟨rfl, e⟩
      · exact .inl (.inr ⟨j, ad, n', c', hj, rfl⟩)
      · rcases hold ad e with ⟨ad', rfl, e2⟩ | h2
        · exact .inl (.inr ⟨j, ad', n, c, hv, e2⟩)
        · exact .inr h2
  refine ⟨?_, h.hb, ⟨a0, c0, hF.turn (by rw [hsz]; exact hg.size) (fun k hk hx hf => ?_) hXX ?_⟩, ?_, ?_, by simp [h.vl], fun j x hx => ?_, fun j k ad ad' n1 d1 n2 d2 hj hk hbb => ?_, h.q0, h.g0, fun k v e => ⟨?_, fun j ad n' c' hj => ?_⟩⟩
  · exact ⟨hg.os.trans h.kp.os, hg.tape.trans h.kp.tape, hg.output.trans h.kp.output, by rw [hsz]; exact Nat.le_trans h.kp.size hg.size, fun k hk ho => (key k (Nat.lt_of_lt_of_le hk h.kp.size) (fun e => by have := (hint k e.symm).1; omega) (fun e => by have := h.g0; omega)).trans (h.kp.block k hk ho)⟩
  · refine key k hk (fun e => ?_) (fun e => ?_)
    · obtain ⟨ad, rfl, e2⟩ := hin k e.symm
      exact hx (.inr ⟨i, ad, n, c, hv, e2⟩)
    · obtain ⟨cur, t, m, hcc, ht⟩ := hf
      subst e
      rw [h.row] at hcc; cases hcc
      revert ht; decide
  · intro k hk
    rw [hsz]
    rcases hk with hx | ⟨j, ad, n', c', hj, rfl⟩
    · exact Nat.lt_of_lt_of_le (hF.xlt k (.inl hx)) hg.size
    · rcases hnew j ad n' c' hj with ⟨_, hj⟩ | ⟨rfl, e⟩
      · exact Nat.lt_of_lt_of_le (hF.xlt _ (.inr ⟨j, ad, n', c', hj, rfl⟩)) hg.size
      · exact hc.lt ad e
  · rw [List.length_set]
    exact (key q h.qlt (hne _ _ _ _ h.box (by decide)) (hgne _ _ _ _ h.box (by decide))).trans h.box
  · rw [setCell_blk hrow1]; simp
  · by_cases hji : j = i
    · subst hji
      have : (cols.set j y)[j]? = some y := List.getElem?_set_self (by rw [← h.vl]; exact hi)
      rw [this] at hx
      cases hx
      exact ⟨a2, c2, List.getElem?_set_self hi, hcol2⟩
    · rw [List.getElem?_set_ne (fun e => hji e.symm)] at hx
      obtain ⟨a3, c3, h3, h4⟩ := h.col j x hx
      refine ⟨a3, c3, by rw [List.getElem?_set_ne (fun e => hji e.symm)]; exact h3, h4.same fun ad e => ?_⟩
      subst e
      obtain ⟨_, cur, hcc⟩ := h4.blk ad rfl
      refine key _ (h4.lt ad rfl) (fun e => ?_) (hgne _ _ _ _ hcc (by decide))
      obtain ⟨ad', rfl, e2⟩ := hin _ e.symm
      exact hji (h.apart j i ad ad' _ _ _ _ h3 hv e2.symm)
  · rcases hnew j ad _ _ hj with ⟨hj1, hj2⟩ | ⟨rfl, e1⟩
    · rcases hnew k ad' _ _ hk with ⟨hk1, hk2⟩ | ⟨rfl, e2⟩
      · exact h.apart j k ad ad' _ _ _ _ hj2 hk2 hbb
      · rcases hold ad' e2 with ⟨ad2, rfl, e3⟩ | h5
        · exact h.apart j k ad ad2 _ _ _ _ hj2 hv (hbb.trans e3.symm)
        · obtain ⟨_, cur, hcc⟩ := h.colAt hj2
          have := (Array.getElem?_eq_some_iff.1 hcc).1
          omega
    · rcases hnew k ad' _ _ hk with ⟨hk1, hk2⟩ | ⟨rfl, e2⟩
      · rcases hold ad e1 with ⟨ad2, rfl, e3⟩ | h5
        · exact h.apart j k ad2 ad' _ _ _ _ hv hk2 (e3.trans hbb)
        · obtain ⟨_, cur, hcc⟩ := h.colAt hk2
          have := (Array.getElem?_eq_some_iff.1 hcc).1
          omega
      · rfl
  · refine (key k (Array.getElem?_eq_some_iff.1 (h.pb k v e).1).1 (fun e1 => ?_) (hgne _ _ _ _ (h.pb k v e).1 (by decide))).trans (h.pb k v e).1
    obtain ⟨ad, rfl, e2⟩ := hin k e1.symm
    exact (h.pb k v e).2 i ad _ _ hv e2
  · rcases hnew j ad _ _ hj with ⟨_, hj2⟩ | ⟨rfl, e1⟩
    · exact (h.pb k v e).2 j ad _ _ hj2
    · rcases hold ad e1 with ⟨ad2, rfl, e3⟩ | h5
      · exact fun e4 => (h.pb k v e).2 j ad2 _ _ hv (e3.trans e4)
      · have := (Array.getElem?_eq_some_iff.1 (h.pb k v e).1).1
        omega
end
end Go.Proofs.YtllkeojkejbbeaaDoor

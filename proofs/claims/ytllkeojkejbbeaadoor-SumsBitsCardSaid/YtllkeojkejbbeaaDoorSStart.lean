/- The adder laid; the bits' list beside it. -/
import Derived.Test.YtllkeojkejbbeaaDoorSFull
import Derived.Test.YtllkeojkejbbeaaDoorBoolsA
import Derived.Test.YtllkeojkejbbeaaDoorMany
namespace Go.Proofs.YtllkeojkejbbeaaDoor
open Go.RowKit Go.Shelf
variable {X : Nat → Prop} {Zb : Option (Nat × Array Value)}

theorem Tryd.infoInts : (Tryd.prog.info? 30).map (fun i => (i.zero, i.size, i.bytes)) = some (some (.slice none 0 0), 1, 24) := by kernel_rfl
theorem made_rows (n : Nat) : (madeCells (Value.slice none 0 0).cells (n * 1)).toList = List.replicate n (Value.slice none 0 0) := by
  apply List.ext_getElem?
  intro i
  simp only [madeCells, Value.cells, Nat.mul_one]
  by_cases h : i < n
  · simp [h, Nat.mod_one]
  · simp [h]
/-- make([][]int, n) -/
theorem wpList_make_rows {w : World} {ops : Array Oper} {rest : List Oper} {o : Oper} {act : Act} {Q : Exit → Act → World → Prop} (hgd : o.guard = none) (l c : Operand) (hop : o.op = Op.makeSlice 90 l c)
    (n : Nat) (hl : act.eval l = .int .i64 n) (hc : act.eval c = .int .i64 n) (hn : n ≤ 1000)
    (h : ∀ w', w'.heap[w.heap.size]? = some (.cells (List.replicate n (Value.slice none 0 0)).toArray 30 (0, 0)) → Below w.heap.size w w' → wpList Tryd.prog ops Q rest (act.put o.dst (.slice (some ⟨w.heap.size, 0, none⟩) n n)) w') :
    wpList Tryd.prog ops Q (o :: rest) act w := by
  obtain ⟨i0, hi, hz0, hz1, hz2⟩ := info_parts Tryd.infoInts
  refine wpList_make_full w hgd l c 90 hop w.heap.size 30 i0 (.slice none 0 0) 1 Tryd.underlying90 hi hz0 hz1 .i64 .i64 n n n hl hc rfl rfl (by rw [hz2]; omega) (by unfold maxLen; omega) (Nat.le_refl _) ?_
  intro w' h1 h2
  rw [made_rows] at h1
  refine h w' ?_ ⟨h2.os, h2.tape, h2.output, h2.size, fun k hk => h2.block k hk (by simp)⟩
  rcases h1.2 with ⟨e, _⟩ | ⟨g, cap, cur, e, hb, hg, hnc, hm, hs, ht⟩
  · cases e
  · cases e
    have : cur = (List.replicate n (Value.slice none 0 0)).toArray := by
      apply Array.ext'
      simp only
      have h4 : cur.toList.length = n := by simpa using hs
      rw [← ht, List.take_of_length_le (by omega)]
    rw [← this]; exact hg
section
variable {w0 w w' : World} {base p V q g : Nat} {gs : List M.G} {cols : List (List Int)} {vals : List Value}
theorem AS.start {a : Option Addr} {c : Nat} (hF : Fm X w0 base p V [] a c) (hb0 : base ≤ w0.heap.size) (n : Nat) (hb : Below w0.heap.size w0 w) (hq0 : w0.heap.size ≤ q) (hg0 : w0.heap.size ≤ g)
    (hq : w.heap[q]? = some (.cells #[.pointer (some ⟨p, 0, none⟩), .slice (some ⟨g, 0, none⟩) n n] 103 (0, 0))) (hg : w.heap[g]? = some (.cells (List.replicate n (Value.slice none 0 0)).toArray 30 (0, 0))) :
    AS X none w0 base p V q g [] (List.replicate n []) (List.replicate n (Value.slice none 0 0)) w := by
  have hno : ∀ (i : Nat) (ad : Addr) (n' c' : Nat), (List.replicate n (Value.slice none 0 0))[i]? = some (.slice (some ad) n' c') → False := fun i ad n' c' h => by
    have := List.mem_of_getElem? h
    have := (List.mem_replicate.1 this).2
    cases this
  refine ⟨Kp.of_below hb, hb0, ⟨a, c, (hF.below hb).turn (Nat.le_refl _) (fun _ _ _ _ => rfl) (fun k hk => ?_) (fun k hk => ?_)⟩, by rw [List.length_replicate]; exact hq, hg, by simp, fun i x hx => ?_, fun i j ad ad' n1 c1 n2 c2 h1 _ _ => (hno i ad _ _ h1).elim, hq0, hg0, fun k v e => by cases e⟩
  · rcases hk with (h1 | ⟨v, h1⟩) | ⟨i, ad, n', c', h1, _⟩
    · exact .inl h1
    · cases h1
    · exact (hno i ad _ _ h1).elim
  · rcases hk with (h1 | ⟨v, h1⟩) | ⟨i, ad, n', c', h1, _⟩
    · exact (hF.below hb).xlt k h1
    · cases h1
    · exact (hno i ad _ _ h1).elim
  · have hi : i < n := by
      have := (List.getElem?_eq_some_iff.1 hx).1
      simpa using this
    rw [List.getElem?_replicate, if_pos hi] at hx
    cases hx
    exact ⟨none, 0, by rw [List.getElem?_replicate, if_pos hi]; rfl, .inl ⟨rfl, rfl, rfl⟩⟩
/-- other things stand while a column grows -/
theorem AS.keep (h : AS X Zb w0 base p V q g gs cols vals w) {i : Nat} {a a1 a2 : Option Addr} {n c c2 : Nat} {y : List Int} {w1 : World} {v : Value} (hv : vals[i]? = some (.slice a n c)) (h1 : ∀ ad1, a1 = some ad1 → ∃ ad, a = some ad ∧ ad.block = ad1.block)
    (hp : ColPut w w0.heap.size a1 y a2 c2 w1) (k : Nat) (cur : Array Value) (e : TypeId) (m : Nat × Nat) (hc : w.heap[k]? = some (.cells cur e m)) (he : e ≠ 3) (he2 : e ≠ 30) :
    (w1.setCell ⟨g, i, none⟩ v).heap[k]? = some (.cells cur e m) := by
  obtain ⟨_, hg, _⟩ := hp
  refine ((Below.heap_setCell _ _ _ _ (fun e1 => ?_)).trans (hg.block k (Array.getElem?_eq_some_iff.1 hc).1 (fun e1 => ?_))).trans hc
  · rw [show k = g from e1, h.row] at hc; cases hc; exact he2 rfl
  · cases a1 with
    | none => simp [blkOf, Value.ownBlock] at e1
    | some ad1 =>
      obtain ⟨ad, rfl, e2⟩ := h1 ad1 rfl
      simp [blkOf, Value.ownBlock] at e1
      obtain ⟨_, cur', hcc⟩ := h.colAt hv
      rw [e2, ← e1, hc] at hcc; cases hcc; exact he rfl
/-- the bits' list has grown -/
theorem AS.bits (h : AS X Zb w0 base p V q g gs cols vals w) {a a' : Option Addr} {c c' m : Nat} {ys : List Int} {z : Int} {w1 : World} (ho : OwnI w w0.heap.size a c ys) (hz : ∀ ad, a = some ad → ∃ v, Zb = some (ad.block, v))
    (ho' : OwnI w1 w0.heap.size a' c' (ys ++ [z])) (hg : w.grownBy w1 (Value.slice a m c).ownBlock) (hl : LiesAt w.heap.size a a') : ∃ Zb', AS X Zb' w0 base p V q g gs cols vals w1 ∧ ∀ ad, a' = some ad → ∃ v, Zb' = some (ad.block, v) := by
  rcases ho'.parts with ⟨_, _, e⟩ | ⟨g', cur, rfl, hbg, hlt, hgg, _⟩
  · simp at e
  have hin : ∀ k, some k = (Value.slice a m c).ownBlock → w0.heap.size ≤ k ∧ ∃ v, Zb = some (k, v) := by
    intro k e
    refine ⟨ownBlock_ge ho k m e.symm, ?_⟩
    cases a with
    | none => simp [Value.ownBlock] at e
    | some ad =>
      simp [Value.ownBlock] at e
      subst e
      exact hz ad rfl
  have key : ∀ k, k < w.heap.size → some k ≠ (Value.slice a m c).ownBlock → w1.heap[k]? = w.heap[k]? := fun k hk hn => hg.block k hk hn
  have hne : ∀ (k : Nat) (cur : Array Value) (e : TypeId) (m' : Nat × Nat), w.heap[k]? = some (.cells cur e m') → e ≠ 3 → some k ≠ (Value.slice a m c).ownBlock := fun k cur e m' hc hne e1 => by
    obtain ⟨_, v, e2⟩ := hin k e1
    rw [(h.pb k v e2).1] at hc; cases hc; exact hne rfl
  have hcol : ∀ (i : Nat) (ad : Addr) (n' c' : Nat), vals[i]? = some (.slice (some ad) n' c') → some ad.block ≠ (Value.slice a m c).ownBlock := fun i ad n' c' hv e => by
    obtain ⟨_, v, e2⟩ := hin _ e
    exact (h.pb _ v e2).2 i ad _ _ hv rfl
  have hnew : (∃ v, Zb = some (g', v)) ∨ g' = w.heap.size := by
    rcases hl _ rfl with ⟨ad, e1, e2⟩ | e2
    · obtain ⟨v, e3⟩ := hz ad e1
      exact .inl ⟨v, by rw [e3, e2]⟩
    · exact .inr e2
  obtain ⟨a0, c0, hF⟩ := h.fm
  refine ⟨some (g', cur), ⟨⟨hg.os.trans h.kp.os, hg.tape.trans h.kp.tape, hg.output.trans h.kp.output, Nat.le_trans h.kp.size hg.size, fun k hk hL => (key k (Nat.lt_of_lt_of_le hk h.kp.size) (fun e => by have := (hin k e).1; omega)).trans (h.kp.block k hk hL)⟩, h.hb, ⟨a0, c0, hF.turn hg.size (fun k hk hx _ => key k hk (fun e => ?_)) (fun k hk => ?_) (fun k hk => ?_)⟩, (key q h.qlt (hne _ _ _ _ h.box (by decide))).trans h.box, (key g h.glt (hne _ _ _ _ h.row (by decide))).trans h.row, h.vl, fun i x hx => ?_, h.apart, h.q0, h.g0, fun k v e => ?_⟩, fun ad e => by cases e; exact ⟨cur, rfl⟩⟩
  · obtain ⟨_, v, e2⟩ := hin k e
    exact hx (.inl (.inr ⟨v, e2⟩))
  · rcases hk with (h1 | ⟨v, h1⟩) | h1
    · exact .inl (.inl (.inl h1))
    · cases h1
      rcases hnew with h2 | h2
      · exact .inl (.inl (.inr h2))
      · exact .inr (by omega)
    · exact .inl (.inr h1)
  · rcases hk with (h1 | ⟨v, h1⟩) | h1
    · exact Nat.lt_of_lt_of_le (hF.xlt k (.inl (.inl h1))) hg.size
    · cases h1; exact hlt
    · exact Nat.lt_of_lt_of_le (hF.xlt k (.inr h1)) hg.size
  · obtain ⟨a3, c3, h3, h4⟩ := h.col i x hx
    refine ⟨a3, c3, h3, h4.same fun ad e => ?_⟩
    subst e
    exact key _ (h4.lt ad rfl) (hcol i ad _ _ h3)
  · cases e
    refine ⟨hgg, fun i ad n' c' hv e => ?_⟩
    rcases hnew with ⟨v, h2⟩ | h2
    · exact (h.pb _ v h2).2 i ad _ _ hv e
    · obtain ⟨_, cur', hcc⟩ := h.colAt hv
      have := (Array.getElem?_eq_some_iff.1 hcc).1
      omega
theorem OwnI.at {base c : Nat} {a : Option Addr} {ys : List Int} (h : OwnI w base a c ys) (hk : ∀ ad, a = some ad → w'.heap[ad.block]? = w.heap[ad.block]?) : OwnI w' base a c ys := by
  refine ⟨h.1, ?_⟩
  rcases h.2 with h0 | ⟨g, cap, cur, e, hb, hg, r⟩
  · exact .inl h0
  · injection e with e1 e2 e3
    exact .inr ⟨g, cap, cur, by rw [e1, e3], hb, (hk ⟨g, 0, none⟩ e1).trans hg, r⟩
end
end Go.Proofs.YtllkeojkejbbeaaDoor

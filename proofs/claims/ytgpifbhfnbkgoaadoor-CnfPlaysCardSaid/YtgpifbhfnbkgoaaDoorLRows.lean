/- Rows of lists of ints, and what stands while one list grows. -/
import Derived.Test.YtgpifbhfnbkgoaaDoorGateL
import Derived.Test.YtgpifbhfnbkgoaaDoorTurn
namespace Go.Proofs.YtgpifbhfnbkgoaaDoor
open Go.RowKit Go.Shelf
variable {X X' Z Z' : Nat → Prop}

theorem Tryd.infoInts : (Tryd.prog.info? 30).map (fun i => (i.zero, i.size, i.bytes)) = some (some (.slice none 0 0), 1, 24) := by kernel_rfl
/-- the block of a list -/
def Zof (a : Option Addr) : Nat → Prop := fun k => ∃ ad, a = some ad ∧ ad.block = k
/-- rows of ints, from block number base on; nothing of it in Z -/
def OwnL (Z : Nat → Prop) (w : World) (base : Nat) (a : Option Addr) (c : Nat) (ls : List (List Int)) : Prop :=
  OffX Z a ∧ ∃ vals : List Value, w.ownsRow base 30 1 (.slice a ls.length c) ls.length vals ∧
    ∀ (i : Nat) (x : List Int), ls[i]? = some x → ∃ a' c', vals[i]? = some (Value.slice a' x.length c') ∧ Ints w a' x ∧ KeptI w base (eff a' x) ∧ OffX Z (eff a' x)
theorem OwnL.row {w : World} {base : Nat} {a : Option Addr} {c : Nat} {ls : List (List Int)} (h : OwnL Z w base a c ls) : ∀ ad, a = some ad → base ≤ ad.block ∧ ∃ cur, w.heap[ad.block]? = some (.cells cur 30 (0, 0)) := by
  intro ad e
  obtain ⟨_, vals, ho, _⟩ := h
  rcases ho.2 with ⟨e0, _⟩ | ⟨g, cap, cur, e0, hb, hg, _⟩
  · injection e0 with e1; rw [e] at e1; cases e1
  · injection e0 with e1; rw [e] at e1; cases e1; exact ⟨hb, cur, hg⟩
/-- a list that lies below base, or among ints -/
theorem KeptI.lt {w : World} {base : Nat} {b : Option Addr} (h : KeptI w base b) (hb : base ≤ w.heap.size) : ∀ ad, b = some ad → ad.block < w.heap.size := by
  intro ad e
  rcases h ad e with h' | ⟨cur, m, hc⟩
  · omega
  · exact (Array.getElem?_eq_some_iff.1 hc).1
theorem KeptI.same {w w' : World} {base : Nat} {b : Option Addr} (h : KeptI w base b) (key : ∀ ad, b = some ad → w'.heap[ad.block]? = w.heap[ad.block]?) : KeptI w' base b := by
  intro ad e
  rcases h ad e with h' | ⟨cur, m, hc⟩
  · exact .inl h'
  · exact .inr ⟨cur, m, (key ad e).trans hc⟩
/-- blocks that rows of ints and their lists lie in -/
def LBlk (w : World) (base k : Nat) : Prop := k < base ∨ ∃ cur e m, w.heap[k]? = some (.cells cur e m) ∧ (e = 30 ∨ e = 3)
theorem OwnL.turn {w w' : World} {base : Nat} {a : Option Addr} {c : Nat} {ls : List (List Int)} (h : OwnL Z w base a c ls) (hb : base ≤ w.heap.size) (hs : w.heap.size ≤ w'.heap.size)
    (key : ∀ k, k < w.heap.size → ¬ Z k → LBlk w base k → w'.heap[k]? = w.heap[k]?) (hZ : ∀ k, Z' k → Z k ∨ w.heap.size ≤ k) : OwnL Z' w' base a c ls := by
  have hrow := h.row
  obtain ⟨hoff, vals, ho, hv⟩ := h
  have hoff' : ∀ {b : Option Addr}, OffX Z b → (∀ ad, b = some ad → ad.block < w.heap.size) → OffX Z' b := fun {b} h1 h2 ad e hz => by
    rcases hZ _ hz with h3 | h3
    · exact h1 ad e h3
    · have := h2 ad e; omega
  refine ⟨hoff' hoff fun ad e => ?_, vals, ⟨ho.1, ?_⟩, fun i x hx => ?_⟩
  · obtain ⟨_, cur, hc⟩ := hrow ad e
    exact (Array.getElem?_eq_some_iff.1 hc).1
  · rcases ho.2 with h0 | ⟨g, cap, cur, e, hbg, hgg, r⟩
    · exact .inl h0
    · have hlt := (Array.getElem?_eq_some_iff.1 hgg).1
      refine .inr ⟨g, cap, cur, e, hbg, (key g hlt ?_ (.inr ⟨cur, _, _, hgg, .inl rfl⟩)).trans hgg, r⟩
      injection e with e1
      exact hoff ⟨g, 0, none⟩ e1
  · obtain ⟨a', c', h1, h2, h3, h4⟩ := hv i x hx
    have hlt := h3.lt hb
    have k1 : ∀ ad, eff a' x = some ad → w'.heap[ad.block]? = w.heap[ad.block]? := fun ad e => key _ (hlt ad e) (h4 ad e) (by
      rcases h3 ad e with h' | ⟨cur, m, hc⟩
      · exact .inl h'
      · exact .inr ⟨cur, _, m, hc, .inr rfl⟩)
    exact ⟨a', c', h1, h2.sameE hs k1, h3.same k1, hoff' h4 hlt⟩
theorem OwnL.below {w w' : World} {base : Nat} {a : Option Addr} {c : Nat} {ls : List (List Int)} (h : OwnL Z w base a c ls) (hbs : base ≤ w.heap.size) (hb : Below w.heap.size w w') : OwnL Z w' base a c ls :=
  h.turn hbs hb.size (fun k hk _ _ => hb.block k hk) (fun _ h => .inl h)
theorem OwnL.kp {w w' : World} {base : Nat} {a : Option Addr} {c : Nat} {ls : List (List Int)} (h : OwnL Z w base a c ls) (hbs : base ≤ w.heap.size) (hk : Kp X base w w') : OwnL Z w' base a c ls :=
  h.turn hbs hk.size (fun k hlt _ hl => hk.block k hlt (by
    rcases hl with h' | ⟨cur, e, m, hc, he⟩
    · exact .inl h'
    · exact .inr (.inr ⟨cur, e, m, hc, by rcases he with rfl | rfl <;> decide, by rcases he with rfl | rfl <;> decide⟩))) (fun _ h => .inl h)
theorem OwnL.made0 (w : World) (base : Nat) (hb : base ≤ w.heap.size) (hZ : ∀ k, Z k → k < w.heap.size) : OwnL Z (w.alloc (.cells #[] 30)) base (some ⟨w.heap.size, 0, none⟩) 0 [] :=
  ⟨fun ad e hz => by cases e; have := hZ _ hz; simp at this, [], World.ownsRow_made w #[] 0 hb (by decide) rfl, fun i x h => by simp at h⟩
theorem OwnL.cell {w : World} {base : Nat} {a : Option Addr} {c : Nat} {ls : List (List Int)} (h : OwnL Z w base a c ls) {i : Nat} {x : List Int} (hx : ls[i]? = some x) :
    ∃ g a' c', a = some ⟨g, 0, none⟩ ∧ w.cell? ⟨g, i, none⟩ = some (.slice a' x.length c') ∧ Ints w a' x := by
  obtain ⟨_, vals, hr, hv⟩ := h
  obtain ⟨a1, c1, e1, r, _⟩ := hv i x hx
  rcases hr.2 with ⟨_, hn⟩ | ⟨g, cap, cur, e, _, hg, _⟩
  · rw [List.eq_nil_of_length_eq_zero hn] at hx; simp at hx
  · injection e with e1' e2 e3
    subst e1'
    have := hr.cells (g := g) rfl i _ e1
    rw [addr_add, Nat.zero_add] at this
    exact ⟨g, a1, c1, rfl, this, r⟩
/-- append(ys, x) of one int -/
theorem step_append_Int1 {w : World} {ops : Array Oper} {o : Oper} {act : Act} {K : Act → World → Prop} {Q : Exit → Act → World → Prop} {E : Prop} (hgd : o.guard = none) (s x : Operand)
    (ho : o.op = .call { callee := .builtin .append, args := #[s, x], argTypes := #[30, 30] })
    (base : Nat) (a : Option Addr) (n c : Nat) (ys : List Int) (hs : act.eval s = .slice a n c) (hn : ys.length = n) (hown : OwnI w base a c ys)
    (ad : Addr) (z : Int) (hx : act.eval x = .slice (some ad) 1 1) (hz : w.cell? ad = some (.int .i64 z))
    (hlen : n + 1 ≤ 17592186043904) (hbase : base ≤ w.heap.size)
    (h : ∀ a' c' w', OwnI w' base a' c' (ys ++ [z]) → w.grownBy w' (Value.slice a n c).ownBlock → LiesAt w.heap.size a a' → K (act.put o.dst (.slice a' (n + 1) c')) w') :
    if Region.wanted o (yielded ops act.tmps) = true then Oper.wp Tryd.prog o act w K Q else E := by
  have hw : Region.wanted o (yielded ops act.tmps) = true := by simp [Region.wanted, hgd]
  rw [if_pos hw]
  subst hn
  obtain ⟨i0, hi, hz0, hz1, hz2⟩ := info_parts Tryd.infoInt
  refine wp_append_own_at w s x 30 ho base 3 i0 (.int .i64 0) 1 8 Tryd.underlying30 hi hz0 hz1 hz2 rfl (by decide) _ _ _ hs hown ad 1 1 [.int .i64 z] hx rfl ?_ ?_ ?_ ?_ hbase ?_
  · intro j u hj
    match j, hj with
    | 0, hj => simp at hj; subst hj; exact hz
  · intro u hu; simp at hu; subst hu; rfl
  · unfold maxLen; omega
  · omega
  · intro v' w' h1 h2 h3
    have h1' : w'.ownsRow base 3 1 v' (ys ++ [z]).length ((ys ++ [z]).map (Value.int .i64)) := by simpa using h1
    have : ∃ a' c', v' = .slice a' (ys.length + 1) c' := by
      rcases h1.2 with ⟨_, hn⟩ | ⟨g, cap, cur, e, _⟩
      · omega
      · exact ⟨_, _, e⟩
    obtain ⟨a', c', rfl⟩ := this
    refine h a' c' w' ?_ h2 (LiesAt.of_ownBlock h3)
    unfold OwnI; simpa using h1'
/-- append(ls, x) of one list -/
theorem step_append_List1 {w : World} {ops : Array Oper} {o : Oper} {act : Act} {K : Act → World → Prop} {Q : Exit → Act → World → Prop} {E : Prop} (hgd : o.guard = none) (s x : Operand)
    (ho : o.op = .call { callee := .builtin .append, args := #[s, x], argTypes := #[66, 66] })
    (base : Nat) (a : Option Addr) (n c : Nat) (ls : List (List Int)) (hs : act.eval s = .slice a n c) (hn : ls.length = n) (hown : OwnL Z w base a c ls)
    (ad : Addr) (b : Option Addr) (k d : Nat) (y : List Int) (hx : act.eval x = .slice (some ad) 1 1) (hcell : w.cell? ad = some (.slice b k d)) (hk : y.length = k) (hy : Ints w b y) (hyk : KeptI w base (eff b y)) (hyo : OffX Z (eff b y))
    (hlen : n + 1 ≤ 1000000) (hbase : base ≤ w.heap.size) (hZ : XLt Z w)
    (h : ∀ a' c' w', OwnL Z w' base a' c' (ls ++ [y]) → w.grownBy w' (Value.slice a n c).ownBlock → LiesAt w.heap.size a a' → K (act.put o.dst (.slice a' (n + 1) c')) w') :
    if Region.wanted o (yielded ops act.tmps) = true then Oper.wp Tryd.prog o act w K Q else E := by
  have hw : Region.wanted o (yielded ops act.tmps) = true := by simp [Region.wanted, hgd]
  rw [if_pos hw]
  subst hn hk
  obtain ⟨i0, hi, hz0, hz1, hz2⟩ := info_parts Tryd.infoInts
  have hrow := hown.row
  obtain ⟨hoff, vals, hr, hvals⟩ := hown
  have hvl : vals.length = ls.length := by simpa using hr.1
  refine wp_append_own_at w s x 66 ho base 30 i0 (.slice none 0 0) 1 24 Tryd.underlying66 hi hz0 hz1 hz2 rfl (by decide) _ _ _ hs hr ad 1 1 [.slice b y.length d] hx rfl ?_ ?_ ?_ ?_ hbase ?_
  · intro j u hj
    match j, hj with
    | 0, hj => simp at hj; subst hj; exact hcell
  · intro u hu; simp at hu; subst hu; rfl
  · unfold maxLen; omega
  · omega
  · intro v' w' h1 h2 h3
    have hkp : ∀ {b' : Option Addr} {m' : List Int}, Ints w b' m' → KeptI w base (eff b' m') → Ints w' b' m' ∧ KeptI w' base (eff b' m') := by
      intro b' m' h4 h5
      have key : ∀ ad, eff b' m' = some ad → w'.heap[ad.block]? = w.heap[ad.block]? := fun ad e => h2.block _ (h5.lt hbase ad e) fun e2 => by
        cases a with
        | none => simp [Value.ownBlock] at e2
        | some ad2 =>
          simp [Value.ownBlock] at e2
          obtain ⟨hb2, cur, hc⟩ := hrow ad2 rfl
          rcases h5 ad e with h' | ⟨cur', m, hc'⟩
          · omega
          · rw [e2, hc] at hc'; cases hc'
      exact ⟨h4.sameE h2.size key, h5.same key⟩
    have : ∃ a' c', v' = .slice a' (ls.length + 1) c' := by
      rcases h1.2 with ⟨_, hn⟩ | ⟨g, cap, cur, e, _⟩
      · omega
      · exact ⟨_, _, e⟩
    obtain ⟨a', c', rfl⟩ := this
    refine h a' c' w' ⟨(LiesAt.of_ownBlock h3).off hoff hZ (Nat.le_refl _), vals ++ [.slice b y.length d], by simpa using h1, fun i u hu => ?_⟩ h2 (LiesAt.of_ownBlock h3)
    by_cases hil : i < ls.length
    · rw [List.getElem?_append_left hil] at hu
      obtain ⟨a1, c1, e1, e2, e3, e4⟩ := hvals i u hu
      exact ⟨a1, c1, by rw [List.getElem?_append_left (by omega)]; exact e1, (hkp e2 e3).1, (hkp e2 e3).2, e4⟩
    · have hil' : i = ls.length := by
        rcases Nat.lt_or_ge i (ls ++ [y]).length with h' | h'
        · simp at h'; omega
        · rw [List.getElem?_eq_none h'] at hu; cases hu
      subst hil'
      rw [List.getElem?_append_right (Nat.le_refl _)] at hu
      simp at hu; subst hu
      exact ⟨b, d, by rw [List.getElem?_append_right (by omega)]; simp [hvl], (hkp hy hyk).1, (hkp hy hyk).2, hyo⟩
end Go.Proofs.YtgpifbhfnbkgoaaDoor

/- Package cnf: put, Many, opposites. -/
import Derived.Test.YtgpifbhfnbkgoaaDoorFm
namespace Go.Proofs.YtgpifbhfnbkgoaaDoor
open Go.RowKit
variable {X : Nat → Prop}

theorem Ints.keepG {w w' : World} {row : Option Nat} (hg : w.grownBy w' row) (hrow : ∀ k, row = some k → ∃ cur e, w.heap[k]? = some (.cells cur e (0, 0)) ∧ e ≠ 3) {b : Option Addr} {zs : List Int} (hz : Ints w b zs) (ht : TagI w b) : Ints w' b zs ∧ TagI w' b := by
  have key : ∀ ad, b = some ad → w'.heap[ad.block]? = w.heap[ad.block]? := by
    intro ad e
    obtain ⟨cur, m, hc⟩ := ht ad e
    refine hg.block _ (Array.getElem?_eq_some_iff.1 hc).1 fun e' => ?_
    obtain ⟨cur', t, hc', hne⟩ := hrow _ e'.symm
    rw [hc'] at hc; cases hc; exact hne rfl
  refine ⟨⟨fun h0 => ?_, hz.wf, hz.len⟩, fun ad e => ?_⟩
  · obtain ⟨b', off, rfl, hlt, hc⟩ := hz.addr h0
    refine ⟨b', off, rfl, Nat.lt_of_lt_of_le hlt hg.size, fun i z hi => ?_⟩
    exact (World.cell?_of_block (a := ⟨b', off + i, none⟩) (key ⟨b', off, none⟩ rfl)).trans (hc i z hi)
  · obtain ⟨cur, m, hc⟩ := ht ad e
    exact ⟨cur, m, (key ad e).trans hc⟩
theorem OwnC.ownBlock {w : World} {base : Nat} {a : Option Addr} {c : Nat} {cs : List (List Int)} (h : OwnC X w base a c cs) (n : Nat) : ∀ k, (Value.slice a n c).ownBlock = some k → base ≤ k ∧ ∃ cur, w.heap[k]? = some (.cells cur 73 (0, 0)) := by
  intro k hk
  cases a with
  | none => simp [Value.ownBlock] at hk
  | some ad => simp [Value.ownBlock] at hk; subst hk; exact h.row ad rfl
/-- a row of clauses that is read -/
def ClsT (X : Nat → Prop) (w : World) (b : Option Addr) (d : Nat) (ds : List (List Int)) : Prop :=
  (b = none → d = 0) ∧ ∃ vals : List Value, vals.length = ds.length ∧ (∀ (j : Nat) (u : Value), vals[j]? = some u → ∃ ad, b = some ad ∧ w.cell? (ad.add j) = some u) ∧
    ∀ (i : Nat) (x : List Int), ds[i]? = some x → ∃ a' c', vals[i]? = some (Value.slice a' x.length c') ∧ Ints w a' x ∧ TagX X w a' ∧ x.length ≤ c' ∧ (a' = none → c' = 0)
theorem ClsT.one {w : World} {ad : Addr} {b : Option Addr} {d : Nat} {zs : List Int} (hcell : w.cell? ad = some (.slice b zs.length d)) (hz : Ints w b zs) (ht : TagX X w b) (hcap : zs.length ≤ d) (hd : b = none → d = 0) : ClsT X w (some ad) 1 [zs] := by
  refine ⟨(fun h => by cases h), [Value.slice b zs.length d], rfl, fun j u hj => ?_, fun i x hx => ?_⟩
  · match j, hj with
    | 0, hj => simp at hj; subst hj; exact ⟨ad, rfl, hcell⟩
  · match i, hx with
    | 0, hx => simp at hx; subst hx; exact ⟨b, d, rfl, hz, ht, hcap, hd⟩
theorem OwnC.clsT {w : World} {base : Nat} {a : Option Addr} {c : Nat} {cs : List (List Int)} (h : OwnC X w base a c cs) : ClsT X w a c cs := by
  obtain ⟨_, vals, ho, hv⟩ := h
  refine ⟨fun e => ?_, vals, by simpa using ho.1, fun j u hj => ?_, hv⟩
  · rcases ho.2 with ⟨e0, _⟩ | ⟨g, cap, cur, e0, _⟩
    · injection e0
    · injection e0 with e1; rw [e] at e1; cases e1
  · cases a with
    | none =>
      rcases ho.2 with ⟨e0, hn⟩ | ⟨g, cap, cur, e0, _⟩
      · have : vals.length = 0 := by have := ho.1; omega
        rw [List.eq_nil_of_length_eq_zero this] at hj; simp at hj
      · injection e0 with e1; cases e1
    | some ad =>
      have := ho.cells (g := ad.block) rfl j u hj
      rcases ho.2 with ⟨e0, hn⟩ | ⟨g, cap, cur, e0, _⟩
      · injection e0 with e1; cases e1
      · injection e0 with e1; cases e1
        exact ⟨_, rfl, this⟩
/-- append(cs, ds...) -/
theorem wpList_append_Clauses {w : World} {ops : Array Oper} {rest : List Oper} {o : Oper} {act : Act} {Q : Exit → Act → World → Prop} (hgd : o.guard = none) (s x : Operand)
    (ho : o.op = .call { callee := .builtin .append, args := #[s, x], argTypes := #[27, 27] })
    (base : Nat) (a : Option Addr) (n c : Nat) (cs : List (List Int)) (hs : act.eval s = .slice a n c) (hn : cs.length = n) (hown : OwnC X w base a c cs)
    (b : Option Addr) (m d : Nat) (ds : List (List Int)) (hx : act.eval x = .slice b m d) (hm : ds.length = m) (hsrc : ClsT X w b d ds) (hX : XLt X w) (hlen : n + m ≤ 1000000) (hbase : base ≤ w.heap.size)
    (h : ∀ a' c' w', OwnC X w' base a' c' (cs ++ ds) → w.grownBy w' (Value.slice a n c).ownBlock → wpList Tryd.prog ops Q rest (act.put o.dst (.slice a' (n + m) c')) w') :
    wpList Tryd.prog ops Q (o :: rest) act w := by
  subst hn hm
  obtain ⟨i0, hi, hz0, hz1, hz2⟩ := info_parts Tryd.infoClause
  have hown' := hown
  obtain ⟨hoff, vals, hrow, hvals⟩ := hown
  have hvl : vals.length = cs.length := by simpa using hrow.1
  obtain ⟨hd, vs, hvsl, hcells, hin⟩ := hsrc
  have fin : ∀ v' w', w'.ownsRow base 73 1 v' (cs.length + ds.length) (vals ++ vs) → w.grownBy w' (Value.slice a cs.length c).ownBlock → (v'.ownBlock = (Value.slice a cs.length c).ownBlock ∨ v'.ownBlock = some w.heap.size) → wpList Tryd.prog ops Q rest (act.put o.dst v') w' := by
    intro v' w' h1 h2 h3
    have hk : ∀ {b : Option Addr} {zs : List Int}, Ints w b zs → TagX X w b → Ints w' b zs ∧ TagX X w' b := by
      intro b zs h3 h4
      have r := Ints.keepG h2 (fun k hk => by
        obtain ⟨_, cur, hc⟩ := hown'.ownBlock _ k hk
        exact ⟨cur, _, hc, by decide⟩) h3 h4.tag
      exact ⟨r.1, h4.off, r.2⟩
    have : ∃ a' c', v' = .slice a' (cs.length + ds.length) c' := by
      rcases h1.2 with ⟨e, hn⟩ | ⟨g, cap, cur, e, _⟩
      · exact ⟨none, 0, by rw [e, hn]⟩
      · exact ⟨_, _, e⟩
    obtain ⟨a', c', rfl⟩ := this
    refine h a' c' w' ⟨(LiesAt.of_ownBlock h3).off hoff hX (Nat.le_refl _), vals ++ vs, by simpa using h1, fun i y hy => ?_⟩ h2
    by_cases hil : i < cs.length
    · rw [List.getElem?_append_left hil] at hy
      obtain ⟨a1, c1, e1, e2, e3, e4, e5⟩ := hvals i y hy
      exact ⟨a1, c1, by rw [List.getElem?_append_left (by omega)]; exact e1, (hk e2 e3).1, (hk e2 e3).2, e4, e5⟩
    · rw [List.getElem?_append_right (by omega)] at hy
      obtain ⟨a1, c1, e1, e2, e3, e4, e5⟩ := hin _ y hy
      exact ⟨a1, c1, by rw [List.getElem?_append_right (by omega), hvl]; exact e1, (hk e2 e3).1, (hk e2 e3).2, e4, e5⟩
  cases b with
  | some ad =>
    refine wpList_append_own_at w hgd s x 27 ho base 73 i0 (.slice none 0 0) 1 24 Tryd.underlying27 hi hz0 hz1 hz2 rfl (by decide) _ _ _ hs hrow ad ds.length d vs hx (by simpa using hvsl) ?_ ?_ ?_ ?_ hbase ?_
    · intro j u hj
      obtain ⟨ad', e, hc⟩ := hcells j u hj
      cases e; exact hc
    · intro u hu
      obtain ⟨j, hj, rfl⟩ := List.getElem_of_mem hu
      obtain ⟨a1, c1, e1, _⟩ := hin j (ds[j]'(by omega)) (List.getElem?_eq_getElem (by omega))
      rw [List.getElem?_eq_getElem hj] at e1
      rw [Option.some.inj e1]; rfl
    · unfold maxLen; omega
    · omega
    · intro v' w' h1 h2 _ h3
      exact fin v' w' h1 h2 h3
  | none =>
    have e0 : vs = [] := by
      cases vs with
      | nil => rfl
      | cons z l => obtain ⟨_, e, _⟩ := hcells 0 z (by simp); cases e
    subst e0
    have e1 : ds = [] := List.eq_nil_of_length_eq_zero (by simpa using hvsl.symm)
    subst e1
    obtain rfl := hd rfl
    refine wpList_append_own_none hgd s x 27 ho base 73 i0 1 Tryd.underlying27 hi _ _ _ hs hrow hx ?_
    exact fin _ _ (by simpa using hrow) ⟨rfl, rfl, rfl, Nat.le_refl _, fun _ _ _ => rfl⟩ (.inl rfl)
/-- behind 'f.clauses = append(f.clauses, c)' -/
theorem Fm.stored {w w1 w2 : World} {base p vars : Nat} {cs ds : List (List Int)} {a a' : Option Addr} {c c' n : Nat} (h : Fm X w base p vars cs a c) (hb1 : Below w.heap.size w w1)
    (ho : OwnC X w2 base a' c' (cs ++ ds)) (hg : w1.grownBy w2 (Value.slice a n c).ownBlock) (hl : cs.length + ds.length ≤ 1000000) :
    Fm X (w2.setCell ⟨p, 1, none⟩ (.slice a' (cs.length + ds.length) c')) base p vars (cs ++ ds) a' c' ∧ KeepsF p a w (w2.setCell ⟨p, 1, none⟩ (.slice a' (cs.length + ds.length) c')) := by
  have h1 := h.below hb1
  have hp1 : w2.heap[p]? = w1.heap[p]? := hg.block p h1.lt fun e => by
    obtain ⟨_, cur, hc⟩ := h1.own.ownBlock n p e.symm
    rw [h1.blk] at hc; cases hc
  have hp2 : w2.heap[p]? = some (.cells #[.int .i64 vars, .slice a cs.length c] 75 (0, 0)) := hp1.trans h1.blk
  have hother : ∀ k, k ≠ p → (w2.setCell ⟨p, 1, none⟩ (.slice a' (cs.length + ds.length) c')).heap[k]? = w2.heap[k]? := fun k hk => Below.heap_setCell _ _ _ _ hk
  have hblk : (w2.setCell ⟨p, 1, none⟩ (.slice a' (cs.length + ds.length) c')).heap[p]? = some (.cells #[.int .i64 vars, .slice a' (cs.length + ds.length) c'] 75 (0, 0)) := by
    simp [World.setCell, Array.getElem?_modify, hp2]
  refine ⟨⟨h.le, by simpa using hblk, ?_, h.vars, by simpa using hl, (h1.xlt.mono hg.size).mono (by simp [World.setCell]), h.xp⟩, ⟨hg.os.trans hb1.os, hg.tape.trans hb1.tape, hg.output.trans hb1.output, ?_, fun k hk hkp hka => ?_⟩⟩
  · obtain ⟨hoff, vals, hr, hv⟩ := ho
    have hkI : ∀ {b : Option Addr} {zs : List Int}, Ints w2 b zs → TagX X w2 b → Ints (w2.setCell ⟨p, 1, none⟩ (.slice a' (cs.length + ds.length) c')) b zs ∧ TagX X (w2.setCell ⟨p, 1, none⟩ (.slice a' (cs.length + ds.length) c')) b := by
      intro b zs hz ht
      have key : ∀ ad, b = some ad → (w2.setCell ⟨p, 1, none⟩ (.slice a' (cs.length + ds.length) c')).heap[ad.block]? = w2.heap[ad.block]? := by
        intro ad e
        obtain ⟨cur, m, hc⟩ := ht.tag ad e
        refine hother _ fun e' => ?_
        rw [e', hp2] at hc; cases hc
      exact ⟨hz.same (by simp [World.setCell]) key, ht.off, ht.tag.same key⟩
    refine ⟨hoff, vals, ?_, fun i y hy => ?_⟩
    · refine ⟨hr.1, ?_⟩
      rcases hr.2 with h0 | ⟨g, cap, cur, e, hbg, hgg, r⟩
      · exact .inl h0
      · refine .inr ⟨g, cap, cur, e, hbg, (hother g fun e' => ?_).trans hgg, r⟩
        rw [e', hp2] at hgg; cases hgg
    · obtain ⟨a1, c1, e1, e2, e3, e4, e5⟩ := hv i y hy
      exact ⟨a1, c1, e1, (hkI e2 e3).1, (hkI e2 e3).2, e4, e5⟩
  · have := hg.size; have := hb1.size; simp [World.setCell]; omega
  · rw [hother k hkp, hg.block k (Nat.lt_of_lt_of_le hk hb1.size) (fun e => ?_), hb1.block k hk]
    cases a with
    | none => simp [Value.ownBlock] at e
    | some ad => simp [Value.ownBlock] at e; exact hka ad rfl e

theorem right_norm {zs : List Int} (h : ∀ z ∈ zs, M.isLit z = true) : M.right (M.norm zs) = true :=
  (M.right_iff _).2 ⟨fun x hx => h x ((M.mem_norm zs x).1 hx), M.norm_eq_self (M.sorted_norm zs)⟩
theorem only_norm {zs : List Int} (h : ∀ z ∈ zs, M.isLit z = true) : M.only (M.norm zs) = M.norm zs := M.only_of_right (right_norm h)
theorem Fm.grown {w w2 : World} {base p vars : Nat} {cs : List (List Int)} {a : Option Addr} {c n : Nat} (h : Fm X w base p vars cs a c) (hg : w.grownBy w2 (Value.slice a n c).ownBlock) :
    w2.cell? ⟨p, 1, none⟩ = some (.slice a cs.length c) ∧ w2.frozen? ⟨p, 1, none⟩ = false ∧ w2.cell? ⟨p, 0, none⟩ = some (.int .i64 vars) := by
  have hp : w2.heap[p]? = w.heap[p]? := hg.block p h.lt fun e => by
    obtain ⟨_, cur, hc⟩ := h.own.ownBlock n p e.symm
    rw [h.blk] at hc; cases hc
  exact ⟨(World.cell?_of_block (a := ⟨p, 1, none⟩) hp).trans h.cell1, (World.frozen?_of_block (a := ⟨p, 1, none⟩) hp).trans (h.frozen 1), (World.cell?_of_block (a := ⟨p, 0, none⟩) hp).trans h.cell0⟩
theorem below_alloc {w w2 : World} (h : Below w.heap.size w w2) (o : Obj) : Below w.heap.size w (w2.alloc o) := h.alloc h.size o
theorem fput_any (base p vars : Nat) (cs : List (List Int)) (a : Option Addr) (c : Nat) (b : Option Addr) (d : Nat) (zs : List Int) (w : World) (hF : Fm X w base p vars cs a c) (hz : Ints w b zs) (hl : ∀ z ∈ zs, M.isLit z = true) (hsm : cs.length + 1 ≤ 1000000) :
    Calls Tryd.prog 61 #[.pointer (some ⟨p, 0, none⟩), .slice b zs.length d] w fun e w' => e = .returned (.tuple #[]) ∧ FmPost X w base p vars (M.addC cs zs) w' := by
  have HL := Lib.hid hl
  clear hl
  have hps := hF.lt
  have hbp := hF.le
  go_enter Tryd.func61, Tryd.ntmps61
  go_wp2_with fail
  refine (norm_ok _ _ _ _ hz HL.out).mono ?_
  rintro e w1 ⟨a1, c1, rfl, h1, h2, h3, h4, h5⟩
  have H1 := Lib.hid h1
  have H2 := Lib.hid h2
  have H3 := Lib.hid h3
  have H4 := Lib.hid h4
  have H5 := Lib.hid h5
  clear h1 h2 h3 h4 h5
  have htt := tautology_any a1 c1 (M.norm zs) w1 H1.out H2.out H3.out
  rw [only_norm HL.out] at htt
  have HT := Lib.hid htt
  clear htt
  have hadd : M.addC cs zs = if M.adj (M.norm zs) then cs else cs ++ [M.norm zs] := rfl
  have HA := Lib.hid hadd
  clear hadd
  generalize hgen : M.norm zs = ys at *
  clear hgen
  cases hadj : M.adj ys
  · go_wp2_with fail
    refine HT.out.mono ?_
    rintro e w2 ⟨rfl, hb2⟩
    have HB := Lib.hid (H4.out.trans (hb2.mono H4.out.size))
    have hF2 := hF.below HB.out
    have hc1 := hF2.cell1
    have hps2 := hF2.lt
    have HF2 := Lib.hid hF2
    have HI := Lib.hid (H1.out.below hb2)
    have HTG := Lib.hid ((H5.out.x hF.xlt).below hb2)
    clear hF2 hb2 HT H4
    go_wp2_with (at_builtin; refine wpList_append_Clauses rfl (.tmp 22) (.tmp 24) rfl base _ _ _ cs rfl rfl (HF2.out.below (below_alloc (Below.refl _ _) _)).own (some ⟨w2.heap.size, 0, none⟩) 1 1 [ys] rfl rfl (ClsT.one (b := a1) (d := c1) (by simp) (HI.out.alloc _) (HTG.out.below (below_alloc (Below.refl _ _) _)) H2.out H3.out) (HF2.out.below (below_alloc (Below.refl _ _) _)).xlt hsm (by simp; omega) ?_; intro a3 c3 w3 hown3 hg3; obtain ⟨hk1, hk2, hk0⟩ := (HF2.out.below (below_alloc (Below.refl _ _) _)).grown hg3; have HO3 := Lib.hid hown3; have HG3 := Lib.hid hg3; clear hown3 hg3)
    go_end0
    refine ⟨rfl, ?_⟩
    rw [HA.out, hadj]
    obtain ⟨r1, r2⟩ := hF.stored (below_alloc HB.out _) HO3.out HG3.out hsm
    exact ⟨a3, c3, r1, r2.kp hF⟩
  · go_wp2_with (go_at_call 42; refine HT.out.mono ?_; rintro e w2 ⟨rfl, hb2⟩)
    go_end0
    refine ⟨rfl, ?_⟩
    rw [HA.out, hadj]
    have hB := H4.out.trans (hb2.mono H4.out.size)
    exact ⟨a, c, hF.below hB, Kp.of_below hB⟩
end Go.Proofs.YtgpifbhfnbkgoaaDoor

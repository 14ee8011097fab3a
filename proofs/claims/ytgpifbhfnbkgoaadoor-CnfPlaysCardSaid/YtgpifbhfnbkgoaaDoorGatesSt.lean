/- CnfGates' first loop: what stands between its steps. -/
import Derived.Test.YtgpifbhfnbkgoaaDoorLRows
namespace Go.Proofs.YtgpifbhfnbkgoaaDoor
open Go.RowKit Go.Shelf

theorem Zof.lt {w : World} {base c : Nat} {a : Option Addr} {ys : List Int} (h : OwnI w base a c ys) : XLt (Zof a) w := by
  rintro k ⟨ad, e, rfl⟩
  obtain ⟨cur, m, hc⟩ := h.tag ad e
  exact (Array.getElem?_eq_some_iff.1 hc).1
/-- in the round of an operation (kd, n, zs) whose box is Bo: the kinds, the lists, the formula, what few handed back, the blocks of one cell that were just laid -/
structure GR (w : World) (p vars : Nat) (cs : List (List Int)) (Bo : Nat) (kd n : Int) (la : Option Addr) (lc : Nat) (zs : List Int) (W : World)
    (ak : Option Addr) (ck : Nat) (ks : List Int) (al : Option Addr) (cl : Nat) (ls : List (List Int)) (R : Option (Option Addr × Nat)) (T : List (Nat × Value × TypeId)) : Prop where
  below : Below w.heap.size w W
  box : W.heap[Bo]? = some (.cells #[.int .i64 kd, .int .i64 n, .slice la zs.length lc] 32 (0, 0))
  kinds : OwnI W w.heap.size ak ck ks
  lists : OwnL (Zof ak) W w.heap.size al cl ls
  fm : ∃ a c, Fm (Zof ak) W w.heap.size p vars cs a c
  lits : Ints W la zs
  litsB : ∀ ad, eff la zs = some ad → ad.block < w.heap.size
  cap : zs.length ≤ lc ∧ (la = none → lc = 0) ∧ zs.length ≤ 1000000
  res : ∀ a' c', R = some (a', c') → Ints W a' (M.few kd zs) ∧ KeptI W w.heap.size (eff a' (M.few kd zs)) ∧ OffX (Zof ak) (eff a' (M.few kd zs)) ∧ (a' = none → c' = 0)
  tmp : ∀ b v t, (b, v, t) ∈ T → W.heap[b]? = some (.cells #[v] t (0, 0)) ∧ ¬ Zof ak b ∧ ¬ Zof al b
section
variable {w : World} {p vars : Nat} {cs : List (List Int)} {Bo : Nat} {kd n : Int} {la : Option Addr} {lc : Nat} {zs : List Int} {W W' : World}
  {ak : Option Addr} {ck : Nat} {ks : List Int} {al : Option Addr} {cl : Nat} {ls : List (List Int)} {R : Option (Option Addr × Nat)} {T : List (Nat × Value × TypeId)}
theorem GR.below' (h : GR w p vars cs Bo kd n la lc zs W ak ck ks al cl ls R T) (hb : Below W.heap.size W W') : GR w p vars cs Bo kd n la lc zs W' ak ck ks al cl ls R T := by
  obtain ⟨a, c, hF⟩ := h.fm
  refine ⟨below_next h.below hb, (hb.block _ (Array.getElem?_eq_some_iff.1 h.box).1).trans h.box, h.kinds.below hb, h.lists.below h.below.size hb, ⟨a, c, hF.below hb⟩, h.lits.below hb, h.litsB, h.cap, fun a' c' e => ?_, fun b v t e => ?_⟩
  · obtain ⟨h1, h2, h3, h4⟩ := h.res a' c' e
    exact ⟨h1.below hb, h2.below hb, h3, h4⟩
  · obtain ⟨h1, h2, h3⟩ := h.tmp b v t e
    exact ⟨(hb.block _ (Array.getElem?_eq_some_iff.1 h1).1).trans h1, h2, h3⟩
theorem GR.drew (h : GR w p vars cs Bo kd n la lc zs W ak ck ks al cl ls R T) : GR w p vars cs Bo kd n la lc zs W.drew ak ck ks al cl ls R T := h.below' ((Below.refl _ _).drew)
theorem GR.allocT (h : GR w p vars cs Bo kd n la lc zs W ak ck ks al cl ls R T) (v : Value) (t : TypeId) : GR w p vars cs Bo kd n la lc zs (W.alloc (.cells #[v] t)) ak ck ks al cl ls R ((W.heap.size, v, t) :: T) := by
  have h1 := h.below' (below_alloc (Below.refl _ _) (.cells #[v] t))
  refine ⟨h1.below, h1.box, h1.kinds, h1.lists, h1.fm, h1.lits, h1.litsB, h1.cap, h1.res, fun b v' t' e => ?_⟩
  rcases List.mem_cons.1 e with e | e
  · cases e
    refine ⟨by show (W.heap.push _)[W.heap.size]? = _; simp, fun hz => ?_, fun ⟨ad, e1, e2⟩ => ?_⟩
    · have := Zof.lt h.kinds _ hz; omega
    · obtain ⟨_, cur, hc⟩ := h.lists.row ad e1
      have := (Array.getElem?_eq_some_iff.1 hc).1
      omega
  · exact h1.tmp b v' t' e
theorem GR.tcell (h : GR w p vars cs Bo kd n la lc zs W ak ck ks al cl ls R T) {b : Nat} {v : Value} {t : TypeId} (hm : (b, v, t) ∈ T) : W.cell? ⟨b, 0, none⟩ = some v := by
  rw [cell_of_cells (h.tmp b v t hm).1]; rfl
theorem GR.cells (h : GR w p vars cs Bo kd n la lc zs W ak ck ks al cl ls R T) : W.cell? ⟨Bo, 0, none⟩ = some (.int .i64 kd) ∧ W.cell? ⟨Bo, 1, none⟩ = some (.int .i64 n) ∧ W.cell? ⟨Bo, 2, none⟩ = some (.slice la zs.length lc) :=
  ⟨by rw [cell_of_cells h.box]; rfl, by rw [cell_of_cells h.box]; rfl, by rw [cell_of_cells h.box]; rfl⟩
/-- few(o) -/
def FewR (w : World) (p vars : Nat) (cs : List (List Int)) (Bo : Nat) (kd n : Int) (la : Option Addr) (lc : Nat) (zs : List Int) (ak : Option Addr) (ck : Nat) (ks : List Int) (al : Option Addr) (cl : Nat) (ls : List (List Int)) (T : List (Nat × Value × TypeId)) (e : Ending) (w' : World) : Prop :=
  ∃ a' c', e = .returned (.slice a' (M.few kd zs).length c') ∧ GR w p vars cs Bo kd n la lc zs w' ak ck ks al cl ls (some (a', c')) T
theorem GR.callFew (h : GR w p vars cs Bo kd n la lc zs W ak ck ks al cl ls R T) :
    Calls Tryd.prog 9 #[.agg #[.int .i64 kd, .int .i64 n, .slice la zs.length lc]] W (FewR w p vars cs Bo kd n la lc zs ak ck ks al cl ls T) := by
  refine (few_any kd n la lc zs W h.lits h.cap.1 h.cap.2.1 h.cap.2.2).mono ?_
  rintro e W' ⟨a', c', rfl, h1, h2, h3, h4, h5⟩
  have hg := h.below' h4
  refine ⟨a', c', rfl, hg.below, hg.box, hg.kinds, hg.lists, hg.fm, hg.lits, hg.litsB, hg.cap, fun a2 c2 e => ?_, hg.tmp⟩
  cases e
  rcases h5 with ⟨rfl, hfz⟩ | h5
  · rw [hfz]
    refine ⟨by rw [← hfz]; exact h1, fun ad e => .inl (h.litsB ad e), fun ad e ⟨ad2, e2, e3⟩ => ?_, h3⟩
    have := h.litsB ad e
    have := h.kinds.tagN.new ad2 e2
    omega
  · refine ⟨h1, h5.tag.kept, fun ad e hz => ?_, h3⟩
    have := Zof.lt h.kinds _ hz
    have := h5.new ad (eff_some e)
    omega
/-- the kinds have grown -/
theorem GR.putK (h : GR w p vars cs Bo kd n la lc zs W ak ck ks al cl ls R T) {a' : Option Addr} {c' m : Nat} {ks' : List Int} (ho : OwnI W' w.heap.size a' c' ks') (hg : W.grownBy W' (Value.slice ak m ck).ownBlock) (hat : LiesAt W.heap.size ak a') :
    GR w p vars cs Bo kd n la lc zs W' a' c' ks' al cl ls R T := by
  have hbs := h.below.size
  have key : ∀ k, k < W.heap.size → ¬ Zof ak k → W'.heap[k]? = W.heap[k]? := fun k hk hz => hg.block k hk fun e => by
    cases ak with
    | none => simp [Value.ownBlock] at e
    | some ad => simp [Value.ownBlock] at e; exact hz ⟨ad, rfl, e.symm⟩
  have hZ : ∀ k, Zof a' k → Zof ak k ∨ W.heap.size ≤ k := fun k ⟨ad', e1, e2⟩ => by
    rcases hat ad' e1 with ⟨ad, e3, e4⟩ | e3
    · exact .inl ⟨ad, e3, e4.trans e2⟩
    · exact .inr (by omega)
  have hnz : ∀ k, k < w.heap.size → ¬ Zof ak k := fun k hk ⟨ad, e1, e2⟩ => by have := h.kinds.tagN.new ad e1; omega
  have hoff : ∀ {b : Option Addr}, OffX (Zof ak) b → (∀ ad, b = some ad → ad.block < W.heap.size) → OffX (Zof a') b := fun {b} h1 h2 ad e hz => by
    rcases hZ _ hz with h3 | h3
    · exact h1 ad e h3
    · have := h2 ad e; omega
  obtain ⟨a, c, hF⟩ := h.fm
  have htag : ∀ k cur e m, W.heap[k]? = some (.cells cur e m) → e ≠ 3 → ¬ Zof ak k := fun k cur e m hc hne ⟨ad, e1, e2⟩ => by
    obtain ⟨cur', m', hc'⟩ := h.kinds.tag ad e1
    rw [e2, hc] at hc'; cases hc'; exact hne rfl
  refine ⟨?_, ?_, ho, h.lists.turn hbs hg.size (fun k hk hz _ => key k hk hz) hZ, ⟨a, c, hF.turn hg.size (fun k hk hz _ => key k hk hz) hZ (Zof.lt ho)⟩, ?_, h.litsB, h.cap, fun a2 c2 e => ?_, fun b v t e => ?_⟩
  · exact ⟨hg.os.trans h.below.os, hg.tape.trans h.below.tape, hg.output.trans h.below.output, Nat.le_trans hbs hg.size, fun k hk => (key k (by omega) (hnz k hk)).trans (h.below.block k hk)⟩
  · exact (key Bo (Array.getElem?_eq_some_iff.1 h.box).1 (htag _ _ _ _ h.box (by decide))).trans h.box
  · exact h.lits.sameE hg.size fun ad e => key _ (by have := h.litsB ad e; omega) (hnz _ (h.litsB ad e))
  · obtain ⟨h1, h2, h3, h4⟩ := h.res a2 c2 e
    have k1 : ∀ ad, eff a2 (M.few kd zs) = some ad → W'.heap[ad.block]? = W.heap[ad.block]? := fun ad e => key _ (h2.lt hbs ad e) (h3 ad e)
    exact ⟨h1.sameE hg.size k1, h2.same k1, hoff h3 (h2.lt hbs), h4⟩
  · obtain ⟨h1, h2, h3⟩ := h.tmp b v t e
    have hlt := (Array.getElem?_eq_some_iff.1 h1).1
    refine ⟨(key b hlt h2).trans h1, fun hz => ?_, h3⟩
    rcases hZ _ hz with h4 | h4
    · exact h2 h4
    · omega
/-- the lists have grown -/
theorem GR.putL (h : GR w p vars cs Bo kd n la lc zs W ak ck ks al cl ls R T) {a' : Option Addr} {c' m : Nat} {ls' : List (List Int)} (ho : OwnL (Zof ak) W' w.heap.size a' c' ls') (hg : W.grownBy W' (Value.slice al m cl).ownBlock) (hat : LiesAt W.heap.size al a') :
    GR w p vars cs Bo kd n la lc zs W' ak ck ks a' c' ls' R T := by
  have hbs := h.below.size
  have key : ∀ k, k < W.heap.size → ¬ Zof al k → W'.heap[k]? = W.heap[k]? := fun k hk hz => hg.block k hk fun e => by
    cases al with
    | none => simp [Value.ownBlock] at e
    | some ad => simp [Value.ownBlock] at e; exact hz ⟨ad, rfl, e.symm⟩
  have hZ : ∀ k, Zof a' k → Zof al k ∨ W.heap.size ≤ k := fun k ⟨ad', e1, e2⟩ => by
    rcases hat ad' e1 with ⟨ad, e3, e4⟩ | e3
    · exact .inl ⟨ad, e3, e4.trans e2⟩
    · exact .inr (by omega)
  have hnz : ∀ k, k < w.heap.size → ¬ Zof al k := fun k hk ⟨ad, e1, e2⟩ => by have := (h.lists.row ad e1).1; omega
  have htag : ∀ k cur e m, W.heap[k]? = some (.cells cur e m) → e ≠ 30 → ¬ Zof al k := fun k cur e m hc hne ⟨ad, e1, e2⟩ => by
    obtain ⟨_, cur', hc'⟩ := h.lists.row ad e1
    rw [e2, hc] at hc'; cases hc'; exact hne rfl
  obtain ⟨a, c, hF⟩ := h.fm
  refine ⟨?_, ?_, h.kinds.kept fun g cur hlt hgg => key g hlt (htag _ _ _ _ hgg (by decide)), ho, ⟨a, c, hF.turn hg.size (fun k hk _ ⟨cur, e, m, hc, he⟩ => key k hk (htag _ _ _ _ hc (by rcases he with rfl | rfl | rfl <;> decide))) (fun _ h => .inl h) ((Zof.lt h.kinds).mono hg.size)⟩, ?_, h.litsB, h.cap, fun a2 c2 e => ?_, fun b v t e => ?_⟩
  · exact ⟨hg.os.trans h.below.os, hg.tape.trans h.below.tape, hg.output.trans h.below.output, Nat.le_trans hbs hg.size, fun k hk => (key k (by omega) (hnz k hk)).trans (h.below.block k hk)⟩
  · exact (key Bo (Array.getElem?_eq_some_iff.1 h.box).1 (htag _ _ _ _ h.box (by decide))).trans h.box
  · exact h.lits.sameE hg.size fun ad e => key _ (by have := h.litsB ad e; omega) (hnz _ (h.litsB ad e))
  · obtain ⟨h1, h2, h3, h4⟩ := h.res a2 c2 e
    have k1 : ∀ ad, eff a2 (M.few kd zs) = some ad → W'.heap[ad.block]? = W.heap[ad.block]? := fun ad e => key _ (h2.lt hbs ad e) (by
      rcases h2 ad e with h' | ⟨cur, m, hc⟩
      · exact hnz _ h'
      · exact htag _ _ _ _ hc (by decide))
    exact ⟨h1.sameE hg.size k1, h2.same k1, h3, h4⟩
  · obtain ⟨h1, h2, h3⟩ := h.tmp b v t e
    have hlt := (Array.getElem?_eq_some_iff.1 h1).1
    refine ⟨(key b hlt h3).trans h1, h2, fun hz => ?_⟩
    rcases hZ _ hz with h4 | h4
    · exact h3 h4
    · omega
theorem GR.stepK {ops : Array Oper} {o : Oper} {act : Act} {K : Act → World → Prop} {Q : Exit → Act → World → Prop} {E : Prop} {nk b : Nat} (h : GR w p vars cs Bo kd n la lc zs W ak ck ks al cl ls R T) (hgd : o.guard = none) (s x : Operand)
    (ho : o.op = .call { callee := .builtin .append, args := #[s, x], argTypes := #[30, 30] }) (hs : act.eval s = .slice ak nk ck) (hx : act.eval x = .slice (some ⟨b, 0, none⟩) 1 1)
    (hm : (b, .int .i64 kd, 3) ∈ T) (hn : ks.length = nk) (hlen : nk ≤ 1000)
    (hK : ∀ a' c' w', GR w p vars cs Bo kd n la lc zs w' a' c' (ks ++ [kd]) al cl ls R T → K (act.put o.dst (.slice a' (nk + 1) c')) w') :
    if Region.wanted o (yielded ops act.tmps) = true then Oper.wp Tryd.prog o act W K Q else E := by
  refine step_append_Int1 hgd s x ho w.heap.size ak nk ck ks hs hn h.kinds ⟨b, 0, none⟩ kd hx (h.tcell hm) (by omega) h.below.size ?_
  intro a' c' w' h1 h2 h3
  exact hK a' c' w' (h.putK h1 h2 h3)
theorem GR.stepL {ops : Array Oper} {o : Oper} {act : Act} {K : Act → World → Prop} {Q : Exit → Act → World → Prop} {E : Prop} {nk b : Nat} {a2 : Option Addr} {c2 : Nat} (h : GR w p vars cs Bo kd n la lc zs W ak ck ks al cl ls (some (a2, c2)) T) (hgd : o.guard = none) (s x : Operand)
    (ho : o.op = .call { callee := .builtin .append, args := #[s, x], argTypes := #[66, 66] }) (hs : act.eval s = .slice al nk cl) (hx : act.eval x = .slice (some ⟨b, 0, none⟩) 1 1)
    (hm : (b, .slice a2 (M.few kd zs).length c2, 30) ∈ T) (hn : ls.length = nk) (hlen : nk ≤ 1000)
    (hK : ∀ a' c' w', GR w p vars cs Bo kd n la lc zs w' ak ck ks a' c' (ls ++ [M.few kd zs]) (some (a2, c2)) T → K (act.put o.dst (.slice a' (nk + 1) c')) w') :
    if Region.wanted o (yielded ops act.tmps) = true then Oper.wp Tryd.prog o act W K Q else E := by
  obtain ⟨r1, r2, r3, r4⟩ := h.res a2 c2 rfl
  refine step_append_List1 hgd s x ho w.heap.size al nk cl ls hs hn h.lists ⟨b, 0, none⟩ a2 _ c2 (M.few kd zs) hx (h.tcell hm) rfl r1 r2 r3 (by omega) h.below.size (Zof.lt h.kinds) ?_
  intro a' c' w' h1 h2 h3
  exact hK a' c' w' (h.putL h1 h2 h3)
/-- gate(f, o.Kind, few(o)) -/
theorem GR.callOk {a2 : Option Addr} {c2 : Nat} (h : GR w p vars cs Bo kd n la lc zs W ak ck ks al cl ls (some (a2, c2)) T) (hk : 1 ≤ kd ∧ kd ≤ 4) (hfit : M.Fits (kd, M.few kd zs)) (hown : M.own vars (M.few kd zs) = true) (hv : vars < 20000) (hn : cs.length + ((M.few kd zs).length + 6) ≤ 200000) :
    Calls Tryd.prog 10 #[.pointer (some ⟨p, 0, none⟩), .int .i64 kd, .slice a2 (M.few kd zs).length c2] W fun e w' => e = .returned (.tuple #[.int .i64 ((vars : Int) + 1), .nilIface]) ∧ GR w p (vars + 1) ((M.gateC kd ((vars + 1 : Nat) : Int) (M.few kd zs)).foldl M.addC cs) Bo kd n la lc zs w' ak ck ks al cl ls none [] := by
  obtain ⟨a, c, hF⟩ := h.fm
  obtain ⟨r1, r2, r3, r4⟩ := h.res a2 c2 rfl
  have hbs := h.below.size
  refine (gateL_ok w.heap.size p vars cs a c a2 c2 kd _ W hF hbs r1 r4 r2 hk hfit hown hv hn).mono ?_
  rintro e W' ⟨rfl, a', c', hF', hk'⟩
  refine ⟨rfl, h.below.trans (hk'.below hbs), ?_, ?_, h.lists.kp hbs hk', ⟨a', c', hF'⟩, ?_, h.litsB, h.cap, (fun _ _ e => by cases e), (fun _ _ _ e => by simp at e)⟩
  · exact (hk'.block Bo (Array.getElem?_eq_some_iff.1 h.box).1 (.inr (.inr ⟨_, _, _, h.box, by decide, by decide⟩))).trans h.box
  · exact h.kinds.kept fun g cur hlt hg => hk'.block g hlt (.inr (.inr ⟨cur, _, _, hg, by decide, by decide⟩))
  · exact (hk'.intsK hbs h.lits (fun ad e => .inl (h.litsB ad e))).1
theorem GR.callBad {a2 : Option Addr} {c2 : Nat} {v : Value} (h : GR w p vars cs Bo kd n la lc zs W ak ck ks al cl ls (some (a2, c2)) T) (hk : 1 ≤ kd ∧ kd ≤ 4) (hfit : M.Fits (kd, M.few kd zs)) (hown : M.own vars (M.few kd zs) = false) (hg : w.cell? ⟨9, 0, none⟩ = some v) :
    Calls Tryd.prog 10 #[.pointer (some ⟨p, 0, none⟩), .int .i64 kd, .slice a2 (M.few kd zs).length c2] W fun e w' => e = .returned (.tuple #[.int .i64 0, v]) ∧ GR w p vars cs Bo kd n la lc zs w' ak ck ks al cl ls (some (a2, c2)) T := by
  obtain ⟨a, c, hF⟩ := h.fm
  obtain ⟨r1, r2, r3, r4⟩ := h.res a2 c2 rfl
  refine (gateL_bad w.heap.size p vars cs a c a2 c2 kd _ v W hF r1 hk hfit hown (cell_below hg h.below)).mono ?_
  rintro e W' ⟨rfl, hb⟩
  exact ⟨rfl, h.below' hb⟩
end
end Go.Proofs.YtgpifbhfnbkgoaaDoor

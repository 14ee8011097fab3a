/- One text of XWGrp, XWNam, XWNames: a claim has at most 60 files. -/
import Derived.Test.YtnmcajinaigcjaaGreatDoorQValid
import Derived.Test.YtnmcajinaigcjaaGreatDoorJAsk
import Derived.Test.YtnmcajinaigcjaaGreatDoorJMem
namespace Go.Proofs.YtnmcajinaigcjaaGreatDoor
open Go.RowKit Go.Maps Go.WideMaps
open Q (It Ver Tm Sp Rc Dm)
open Go.Proofs.YtnmcajinaigcjaaGreatDoor.C

/-- a value stands for itself -/
def W.heldE (v : Value) : Option (DataW Value × List MemPlace) := some (.held v, [])
abbrev W.OwnH (w : World) (B k : Nat) (D : DataW Value) : Prop := w.ownsMap Tryz.prog 9 W.heldE B k D
theorem W.OwnH.same {w w' : World} {B k : Nat} {D : DataW Value} (h : W.OwnH w B k D) (he : w'.heap[B]? = w.heap[B]?) : W.OwnH w' B k D := by
  obtain ⟨es, clock, h1, h2⟩ := h; exact ⟨es, clock, he.trans h1, h2⟩
theorem W.OwnH.blk {w : World} {B k : Nat} {D : DataW Value} (h : W.OwnH w B k D) : ∃ es clock, w.heap[B]? = some (.map es clock) := by
  obtain ⟨es, clock, h1, _⟩ := h; exact ⟨es, clock, h1⟩
/-- a map read in a region that draws -/
theorem W.step_lookup {w : World} {ops : Array Oper} {o : Oper} {act : Act} {K : Act → World → Prop} {Q : Exit → Act → World → Prop} {E : Prop} (hgd : o.guard = none) (m x : Operand) (t e : TypeId) (hop : o.op = Op.lookup t m x false)
    (ht : Tryz.prog.underlying t = some (.map 9 e)) (z : Value) (hz : (zeroValue e).run Tryz.prog w = .ok z w) (B n : Nat) (D : DataW Value) (hm : act.eval m = .map (some B)) (hown : W.OwnH w B n D)
    (s : ByteArray) (hx : act.eval x = .string s) (hkey : keyOf Tryz.prog 9 (.string s) = some (.string s.toList)) (v : Value) (hat : D.atKey (.string s.toList) (.held z) = .held v) (h : K (act.put o.dst v) w) :
    if Region.wanted o (yielded ops act.tmps) = true then Oper.wp Tryz.prog o act w K Q else E := by
  have hw : Region.wanted o (yielded ops act.tmps) = true := by simp [Region.wanted, hgd]
  rw [if_pos hw]
  obtain ⟨v', ps, hrun, hv⟩ := hown.lookup keyedS ht hz rfl hkey
  rw [hat] at hv
  obtain rfl : v' = v := by
    unfold W.heldE at hv
    simp at hv; exact hv.1
  unfold Oper.wp
  simp [execOp, hop, hm, hx, hrun, Result.andThen]
  exact h
/-- a map written in a region that draws -/
theorem W.step_update {w : World} {ops : Array Oper} {o : Oper} {act : Act} {K : Act → World → Prop} {Q : Exit → Act → World → Prop} {E : Prop} (hgd : o.guard = none) (m x v : Operand) (t e : TypeId) (hop : o.op = Op.mapUpdate t m x v)
    (ht : Tryz.prog.underlying t = some (.map 9 e)) (B n : Nat) (D : DataW Value) (hm : act.eval m = .map (some B)) (hown : W.OwnH w B n D) (hn : n < maxLen)
    (s : ByteArray) (hx : act.eval x = .string s) (hkey : keyOf Tryz.prog 9 (.string s) = some (.string s.toList)) (val : Value) (hv : act.eval v = val)
    (h : ∀ w', W.OwnH w' B (n + 1) (D.put (.string s.toList) (.held val)) → w.grownBy w' (some B) → K (act.put o.dst undef) w') :
    if Region.wanted o (yielded ops act.tmps) = true then Oper.wp Tryz.prog o act w K Q else E := by
  have hw : Region.wanted o (yielded ops act.tmps) = true := by simp [Region.wanted, hgd]
  rw [if_pos hw]
  obtain ⟨w', hrun, r1, r2⟩ := hown.update keyedS ht hn hkey (val := val) rfl
  unfold Oper.wp
  simp [execOp, hop, hm, hx, hv, hrun, Result.andThen]
  exact h w' r1 r2
/-- the rows of a map: where they lie, what they hold -/
structure W.Grp (w : World) (base B n : Nat) (D : DataW Value) (G : List UInt8 → Option Addr × Nat) (g : List UInt8 → List Int) : Prop where
  map : W.OwnH w B n D
  at_ : ∀ nm, D.atKey (.string nm) (.held (.slice none 0 0)) = .held (.slice (G nm).1 (g nm).length (G nm).2)
  own : ∀ nm, C.OwnI w base (G nm).1 (G nm).2 (g nm)
  apart : ∀ nm nm' ad ad', nm ≠ nm' → (G nm).1 = some ad → (G nm').1 = some ad' → ad.block ≠ ad'.block
theorem W.Grp.made (w : World) (base : Nat) : W.Grp (w.alloc (.map #[] 0)) base w.heap.size 0 (.map []) (fun _ => (none, 0)) (fun _ => []) :=
  ⟨World.ownsMap_made _ _ _ _, fun _ => rfl, fun _ => C.OwnI.nil _ _, fun _ _ _ _ _ h => by cases h⟩
theorem W.Grp.keep {w w' : World} {base B n : Nat} {D : DataW Value} {G : List UInt8 → Option Addr × Nat} {g : List UInt8 → List Int} (h : W.Grp w base B n D G g) (hB : w'.heap[B]? = w.heap[B]?)
    (hk : ∀ k cur, k < w.heap.size → w.heap[k]? = some (.cells cur 3 (0, 0)) → w'.heap[k]? = w.heap[k]?) : W.Grp w' base B n D G g :=
  ⟨h.map.same hB, h.at_, fun nm => (h.own nm).kept hk, h.apart⟩
theorem W.Grp.lt {w : World} {base B n : Nat} {D : DataW Value} {G : List UInt8 → Option Addr × Nat} {g : List UInt8 → List Int} (h : W.Grp w base B n D G g) : B < w.heap.size := h.map.lt
theorem W.Grp.below {w w' : World} {base B n : Nat} {D : DataW Value} {G : List UInt8 → Option Addr × Nat} {g : List UInt8 → List Int} (h : W.Grp w base B n D G g) (hb : Below w.heap.size w w') : W.Grp w' base B n D G g :=
  h.keep (hb.block _ h.lt) fun k _ hk _ => hb.block k hk
theorem W.Grp.kp {X : Nat → Prop} {b0 : Nat} {w w' : World} {base B n : Nat} {D : DataW Value} {G : List UInt8 → Option Addr × Nat} {g : List UInt8 → List Int} (h : W.Grp w base B n D G g) (hk : C.Kp X b0 w w') (hX : X B) : W.Grp w' base B n D G g :=
  h.keep (hk.block _ h.lt (.inr (.inl hX))) fun k _ hlt hc => hk.block k hlt (.inr (.inr ⟨_, _, _, hc, by decide, by decide⟩))
theorem W.ownI_same {w w' : World} {base : Nat} {a : Option Addr} {c : Nat} {ys : List Int} (h : C.OwnI w base a c ys) (hk : ∀ ad, a = some ad → w'.heap[ad.block]? = w.heap[ad.block]?) : C.OwnI w' base a c ys := by
  refine ⟨h.1, ?_⟩
  rcases h.2 with h0 | ⟨g, cap, cur, e, hb, hg, r⟩
  · exact .inl h0
  · exact .inr ⟨g, cap, cur, e, hb, (hk ⟨g, 0, none⟩ (by injection e)).trans hg, r⟩
theorem W.ownI_row {w : World} {base : Nat} {a : Option Addr} {c : Nat} {ys : List Int} (h : C.OwnI w base a c ys) {ad : Addr} (e : a = some ad) : ad.block < w.heap.size ∧ base ≤ ad.block ∧ ∃ cur, w.heap[ad.block]? = some (.cells cur 3 (0, 0)) := by
  rcases h.parts with ⟨e0, _⟩ | ⟨g0, cur, e0, hb, hlt, hg, _⟩
  · rw [e0] at e; cases e
  · rw [e0] at e; cases e; exact ⟨hlt, hb, cur, hg⟩
/-- a row that has grown stands in the map again -/
theorem W.Grp.put {w w1 w2 : World} {base B n : Nat} {D : DataW Value} {G : List UInt8 → Option Addr × Nat} {g : List UInt8 → List Int} (h : W.Grp w base B n D G g) (nm : List UInt8) {a' : Option Addr} {c' : Nat} {zs : List Int}
    (h1 : ∀ k, k < w.heap.size → (∀ ad, (G nm).1 = some ad → ad.block ≠ k) → w1.heap[k]? = w.heap[k]?) (hO : C.OwnI w1 base a' c' zs) (hat : ∀ ad', a' = some ad' → (∃ ad, (G nm).1 = some ad ∧ ad.block = ad'.block) ∨ w.heap.size ≤ ad'.block)
    (h2 : W.OwnH w2 B (n + 1) (D.put (.string nm) (.held (.slice a' zs.length c')))) (hg2 : w1.grownBy w2 (some B)) :
    W.Grp w2 base B (n + 1) (D.put (.string nm) (.held (.slice a' zs.length c'))) (fun x => if x = nm then (a', c') else G x) (fun x => if x = nm then zs else g x) := by
  obtain ⟨es, clock, hB⟩ := h.map.blk
  have hBlt := h.lt
  have hB1 : w1.heap[B]? = some (.map es clock) := (h1 B hBlt fun ad e hb => by
    obtain ⟨_, _, cur, hc⟩ := W.ownI_row (h.own nm) e
    rw [hb, hB] at hc; cases hc).trans hB
  have hst : ∀ k cur, k < w1.heap.size → w1.heap[k]? = some (.cells cur 3 (0, 0)) → w2.heap[k]? = w1.heap[k]? := fun k cur hk hc => hg2.block k hk fun e => by
    injection e with e; subst e; rw [hB1] at hc; cases hc
  refine ⟨h2, fun x => ?_, fun x => ?_, fun x y ad ad' hxy e1 e2 => ?_⟩
  · by_cases e : x = nm
    · subst e
      rw [atKey_put_same (h.map.tidy keyedS).isMap (show WideAt.IsKeyLit (.string x) from trivial)]
      simp
    · rw [atKey_put_other (by simpa using e), h.at_ x]
      simp [e]
  · by_cases e : x = nm
    · subst e
      simp only [if_true]
      exact hO.kept hst
    · simp only [e, if_false]
      refine C.OwnI.kept (W.ownI_same (h.own x) fun ad e1 => ?_) hst
      exact h1 _ (W.ownI_row (h.own x) e1).1 fun ad2 e2 => h.apart nm x ad2 ad (fun h => e h.symm) e2 e1
  · by_cases ex : x = nm <;> by_cases ey : y = nm
    · exact absurd (ex.trans ey.symm) hxy
    · simp only [ex, if_true, ey, if_false] at e1 e2
      rcases hat ad e1 with ⟨ad0, h3, h4⟩ | h3
      · rw [← h4]; exact h.apart nm y ad0 ad' (fun h => ey h.symm) h3 e2
      · have := (W.ownI_row (h.own y) e2).1; omega
    · simp only [ex, if_false, ey, if_true] at e1 e2
      rcases hat ad' e2 with ⟨ad0, h3, h4⟩ | h3
      · rw [← h4]; exact h.apart x nm ad ad0 ex e1 h3
      · have := (W.ownI_row (h.own x) e1).1; omega
    · simp only [ex, if_false, ey] at e1 e2
      exact h.apart x y ad ad' hxy e1 e2
/-- a row struck out -/
theorem W.Grp.del {w w1 : World} {base B n : Nat} {D : DataW Value} {G : List UInt8 → Option Addr × Nat} {g : List UInt8 → List Int} (h : W.Grp w base B n D G g) (nm : List UInt8) (h1 : W.OwnH w1 B n (D.del (.string nm))) (ht : w.mapTurned w1 B) :
    W.Grp w1 base B n (D.del (.string nm)) (fun x => if x = nm then (none, 0) else G x) (fun x => if x = nm then [] else g x) := by
  refine ⟨h1, fun x => ?_, fun x => ?_, fun x y ad ad' hxy e1 e2 => ?_⟩
  · by_cases e : x = nm
    · subst e
      rw [atKey_del_same]; simp
    · rw [atKey_del_other (by simpa using e), h.at_ x]; simp [e]
  · by_cases e : x = nm
    · simp only [e, if_true]; exact C.OwnI.nil _ _
    · simp only [e, if_false]
      refine (h.own x).kept fun k cur hk hc => ?_
      exact ht.grown.block k hk fun e => by
        injection e with e; subst e
        obtain ⟨es, clock, hB⟩ := h.map.blk
        rw [hB] at hc; cases hc
  · by_cases ex : x = nm
    · simp only [ex, if_true] at e1; cases e1
    · by_cases ey : y = nm
      · simp only [ey, if_true] at e2; cases e2
      · simp only [ex, if_false, ey] at e1 e2
        exact h.apart x y ad ad' hxy e1 e2
/-- one block more that a formula leaves alone: a new one -/
def W.XB (X : Nat → Prop) (B : Nat) : Nat → Prop := fun k => X k ∨ k = B
theorem W.fm_more {X : Nat → Prop} {w : World} {base p V : Nat} {cs : List (List Int)} {a : Option Addr} {c : Nat} (h : C.Fm X w base p V cs a c) (o : Obj) : C.Fm (W.XB X w.heap.size) (w.alloc o) base p V cs a c := by
  have hb : Below w.heap.size w (w.alloc o) := (Below.refl _ _).alloc (Nat.le_refl _) o
  obtain ⟨hoff, vals, ho, hv⟩ := h.own
  refine ⟨h.le, (h.below hb).blk, ⟨fun ad e hx => ?_, vals, ho.alloc o, fun i x hx => ?_⟩, h.vars, h.len, fun k hk => ?_, fun hx => ?_⟩
  · rcases hx with hx | hx
    · exact hoff ad e hx
    · obtain ⟨_, cur, hc⟩ := h.own.row ad e
      have := (Array.getElem?_eq_some_iff.1 hc).1
      omega
  · obtain ⟨a', c', h1, h2, h3, h4, h5⟩ := hv i x hx
    refine ⟨a', c', h1, h2.below hb, ⟨fun ad e hx => ?_, h3.tag.below hb⟩, h4, h5⟩
    rcases hx with hx | hx
    · exact h3.off ad e hx
    · obtain ⟨cur, m, hc⟩ := h3.tag ad e
      have := (Array.getElem?_eq_some_iff.1 hc).1
      omega
  · rcases hk with hk | rfl
    · have := h.xlt k hk; simp; omega
    · simp
  · rcases hx with hx | hx
    · exact h.xp hx
    · have := h.lt; omega
theorem W.fm_less {X : Nat → Prop} {w : World} {base p V B : Nat} {cs : List (List Int)} {a : Option Addr} {c : Nat} (h : C.Fm (W.XB X B) w base p V cs a c) : C.Fm X w base p V cs a c := by
  obtain ⟨hoff, vals, ho, hv⟩ := h.own
  refine ⟨h.le, h.blk, ⟨fun ad e hx => hoff ad e (.inl hx), vals, ho, fun i x hx => ?_⟩, h.vars, h.len, fun k hk => h.xlt k (.inl hk), fun hx => h.xp (.inl hx)⟩
  obtain ⟨a', c', h1, h2, h3, h4, h5⟩ := hv i x hx
  exact ⟨a', c', h1, h2, ⟨fun ad e hx => h3.off ad e (.inl hx), h3.tag⟩, h4, h5⟩
theorem W.kp_less {X : Nat → Prop} {base B : Nat} {w w' : World} (h : C.Kp (W.XB X B) base w w') : C.Kp X base w w' :=
  ⟨h.os, h.tape, h.output, h.size, fun k hk hl => h.block k hk (by
    rcases hl with hl | hl | hl
    · exact .inl hl
    · exact .inr (.inl (.inl hl))
    · exact .inr (.inr hl))⟩
end Go.Proofs.YtnmcajinaigcjaaGreatDoor
namespace Go.Proofs.YtnmcajinaigcjaaGreatDoor
open Go.RowKit Go.Maps Go.WideMaps
open Q (It Ver Tm Sp Rc Dm)
open Go.Proofs.YtnmcajinaigcjaaGreatDoor.C

/-- append of one number in a region that draws -/
theorem W.step_append {w : World} {ops : Array Oper} {o : Oper} {act : Act} {K : Act → World → Prop} {Q : Exit → Act → World → Prop} {E : Prop} (hgd : o.guard = none) (s x : Operand)
    (ho : o.op = .call { callee := .builtin .append, args := #[s, x], argTypes := #[31, 31] })
    (base : Nat) (a : Option Addr) (n c : Nat) (ys : List Int) (hs : act.eval s = .slice a n c) (hn : ys.length = n) (hown : C.OwnI w base a c ys)
    (ad : Addr) (z : Int) (hx : act.eval x = .slice (some ad) 1 1) (hz : w.cell? ad = some (.int .i64 z)) (hlen : n ≤ 1000000) (hbase : base ≤ w.heap.size)
    (h : ∀ a' c' w', C.OwnI w' base a' c' (ys ++ [z]) → w.grownBy w' (Value.slice a n c).ownBlock → C.LiesAt w.heap.size a a' → K (act.put o.dst (.slice a' (n + 1) c')) w') :
    if Region.wanted o (yielded ops act.tmps) = true then Oper.wp Tryz.prog o act w K Q else E := by
  have hw : Region.wanted o (yielded ops act.tmps) = true := by simp [Region.wanted, hgd]
  rw [if_pos hw]
  subst hn
  obtain ⟨i0, hi, hz0, hz1, hz2⟩ := info_parts C.Tryz.infoInt
  refine C.wp_append_own_at w s x 31 ho base 3 i0 (.int .i64 0) 1 8 Tryz.underlying31 hi hz0 hz1 hz2 rfl (by decide) _ _ _ hs hown ad 1 1 [.int .i64 z] hx rfl ?_ ?_ ?_ ?_ hbase ?_
  · intro j u hj
    match j, hj with
    | 0, hj => simp at hj; subst hj; simpa [Addr.add] using hz
  · intro u hu; simp at hu; subst hu; rfl
  · unfold maxLen; omega
  · omega
  · intro v' w' h1 h2 h3
    have e1 : ys.map (Value.int .i64) ++ [Value.int .i64 z] = (ys ++ [z]).map (Value.int .i64) := by simp
    have e2 : ys.length + 1 = (ys ++ [z]).length := by simp
    rw [e1, e2] at h1
    have : ∃ a' c', v' = .slice a' (ys ++ [z]).length c' := by
      rcases h1.2 with ⟨e, hn⟩ | ⟨g, cap, cur, e, _⟩
      · exact ⟨none, 0, by rw [e, hn]⟩
      · exact ⟨_, _, e⟩
    obtain ⟨a', c', rfl⟩ := this
    rw [← e2]
    exact h a' c' w' h1 h2 (C.LiesAt.of_ownBlock h3)
theorem W.zeroRow (w : World) : (zeroValue 31).run Tryz.prog w = .ok (.slice none 0 0) w := by kernel_rfl
/-- the blocks of X, the map's, and those of its rows -/
def W.YG (X : Nat → Prop) (B : Nat) (G : List UInt8 → Option Addr × Nat) (k : Nat) : Prop := X k ∨ k = B ∨ ∃ nm ad, (G nm).1 = some ad ∧ ad.block = k
/-- writeNames on its way: the map lies in the first new block -/
structure W.NSt (X : Nat → Prop) (w0 w wr : World) (p V : Nat) (cs : List (List Int)) (fa : Option Addr) (fc n : Nat) (D : DataW Value) (G : List UInt8 → Option Addr × Nat) (g : List UInt8 → List Int) : Prop where
  fm : C.Fm (W.YG X w.heap.size G) wr w0.heap.size p V cs fa fc
  grp : W.Grp wr w.heap.size w.heap.size n D G g
  kp : C.Kp X w0.heap.size w wr
section
variable {X : Nat → Prop} {w0 w wr : World} {p V : Nat} {cs : List (List Int)} {fa : Option Addr} {fc n : Nat} {D : DataW Value} {G : List UInt8 → Option Addr × Nat} {g : List UInt8 → List Int}
theorem W.NSt.start (h : C.Fm X w w0.heap.size p V cs fa fc) : W.NSt X w0 w (w.alloc (.map #[] 0)) p V cs fa fc 0 (.map []) (fun _ => (none, 0)) (fun _ => []) := by
  have hb : Below w.heap.size w (w.alloc (.map #[] 0)) := (Below.refl _ _).alloc (Nat.le_refl _) _
  refine ⟨C.Fm.turn h hb.size (fun k hk _ _ => hb.block k hk) (fun k hk => ?_) (fun k hk => ?_), W.Grp.made w w.heap.size, C.Kp.of_below hb⟩
  · rcases hk with hk | hk | ⟨_, _, hk, _⟩
    · exact .inl hk
    · exact .inr (by omega)
    · cases hk
  · rcases hk with hk | hk | ⟨_, _, hk, _⟩
    · have := h.xlt k hk; simp; omega
    · subst hk; simp
    · cases hk
theorem W.NSt.below (h : W.NSt X w0 w wr p V cs fa fc n D G g) {w' : World} (hb : Below wr.heap.size wr w') : W.NSt X w0 w w' p V cs fa fc n D G g :=
  ⟨h.fm.below hb, h.grp.below hb, h.kp.trans (C.Kp.of_below hb)⟩
/-- clauses are added -/
theorem W.NSt.post (h : W.NSt X w0 w wr p V cs fa fc n D G g) {w' : World} {cs' : List (List Int)} (hp : C.FmPost (W.YG X w.heap.size G) wr w0.heap.size p V cs' w') : ∃ fa' fc', W.NSt X w0 w w' p V cs' fa' fc' n D G g := by
  obtain ⟨fa', fc', hf, hk⟩ := hp
  refine ⟨fa', fc', hf, h.grp.kp hk (.inr (.inl rfl)), h.kp.trans ⟨hk.os, hk.tape, hk.output, hk.size, fun k h1 h2 => hk.block k h1 ?_⟩⟩
  rcases h2 with h2 | h2 | h2
  · exact .inl h2
  · exact .inr (.inl (.inl h2))
  · exact .inr (.inr h2)
/-- a row has grown, and stands in the map again -/
theorem W.NSt.put (h : W.NSt X w0 w wr p V cs fa fc n D G g) (nm : List UInt8) {WR w3 w5 : World} {a' : Option Addr} {c' : Nat} {z : Int} (hb : Below wr.heap.size wr WR) (hO : C.OwnI w3 w.heap.size a' c' (g nm ++ [z]))
    (hg : WR.grownBy w3 (Value.slice (G nm).1 (g nm).length (G nm).2).ownBlock) (hat : C.LiesAt WR.heap.size (G nm).1 a') (h2 : W.OwnH w5 w.heap.size (n + 1) (D.put (.string nm) (.held (.slice a' (g nm ++ [z]).length c')))) (hg2 : w3.grownBy w5 (some w.heap.size)) :
    W.NSt X w0 w w5 p V cs fa fc (n + 1) (D.put (.string nm) (.held (.slice a' (g nm ++ [z]).length c'))) (fun x => if x = nm then (a', c') else G x) (fun x => if x = nm then g nm ++ [z] else g x) := by
  have hne : ∀ k, (∀ ad, (G nm).1 = some ad → ad.block ≠ k) → some k ≠ (Value.slice (G nm).1 (g nm).length (G nm).2).ownBlock := by
    intro k hk e
    cases hG : (G nm).1 with
    | none => rw [hG] at e; simp [Value.ownBlock] at e
    | some ad => rw [hG] at e; simp [Value.ownBlock] at e; exact hk ad hG e.symm
  have hz1 : wr.heap.size ≤ WR.heap.size := hb.size
  have hz2 : WR.heap.size ≤ w3.heap.size := hg.size
  have hz3 : w3.heap.size ≤ w5.heap.size := hg2.size
  have hzw : w.heap.size ≤ wr.heap.size := h.kp.size
  have hnew : ∀ ad', a' = some ad' → (∃ ad, (G nm).1 = some ad ∧ ad.block = ad'.block) ∨ wr.heap.size ≤ ad'.block := fun ad' e => by
    rcases hat ad' e with h3 | h3
    · exact .inl h3
    · exact .inr (by omega)
  have key : ∀ k, k < wr.heap.size → k ≠ w.heap.size → (∀ ad, (G nm).1 = some ad → ad.block ≠ k) → w5.heap[k]? = wr.heap[k]? := fun k hk h3 h4 => by
    rw [hg2.block k (by omega) (fun e => h3 (Option.some.inj e)), hg.block k (by omega) (hne k h4), hb.block k hk]
  refine ⟨C.Fm.turn h.fm (by omega) (fun k hk hY _ => key k hk (fun e => hY (.inr (.inl e))) fun ad e1 e2 => hY (.inr (.inr ⟨nm, ad, e1, e2⟩))) (fun k hk => ?_) (fun k hk => ?_), ?_, ?_⟩
  · rcases hk with hk | hk | ⟨x, ad, h3, h4⟩
    · exact .inl (.inl hk)
    · exact .inl (.inr (.inl hk))
    · by_cases e : x = nm
      · simp only [e, if_true] at h3
        rcases hnew ad h3 with ⟨ad0, h5, h6⟩ | h5
        · exact .inl (.inr (.inr ⟨nm, ad0, h5, h6.trans h4⟩))
        · exact .inr (by omega)
      · simp only [e, if_false] at h3
        exact .inl (.inr (.inr ⟨x, ad, h3, h4⟩))
  · rcases hk with hk | hk | ⟨x, ad, h3, h4⟩
    · have := h.fm.xlt k (.inl hk); omega
    · have := h.fm.xlt k (.inr (.inl hk)); omega
    · by_cases e : x = nm
      · simp only [e, if_true] at h3
        have := (W.ownI_row hO h3).1
        omega
      · simp only [e, if_false] at h3
        have := h.fm.xlt k (.inr (.inr ⟨x, ad, h3, h4⟩)); omega
  · refine (h.grp.below hb).put nm (w1 := w3) (fun k hk h3 => hg.block k hk (hne k h3)) hO (fun ad' e => ?_) h2 hg2
    rcases hat ad' e with h3 | h3
    · exact .inl h3
    · exact .inr (by omega)
  · refine ⟨?_, ?_, ?_, by omega, fun k hk hL => ?_⟩
    · rw [hg2.os, hg.os, hb.os]; exact h.kp.os
    · rw [hg2.tape, hg.tape, hb.tape]; exact h.kp.tape
    · rw [hg2.output, hg.output, hb.output]; exact h.kp.output
    · rw [key k (by omega) (by omega) fun ad e1 e2 => ?_]
      · exact h.kp.block k hk hL
      · have := (W.ownI_row (h.grp.own nm) e1).2.1; omega
/-- a row is struck out -/
theorem W.NSt.del (h : W.NSt X w0 w wr p V cs fa fc n D G g) (nm : List UInt8) {w1 : World} (h1 : W.OwnH w1 w.heap.size n (D.del (.string nm))) (ht : wr.mapTurned w1 w.heap.size) :
    W.NSt X w0 w w1 p V cs fa fc n (D.del (.string nm)) (fun x => if x = nm then (none, 0) else G x) (fun x => if x = nm then [] else g x) := by
  have hg := ht.grown
  have hzw : w.heap.size ≤ wr.heap.size := h.kp.size
  have hz : wr.heap.size ≤ w1.heap.size := hg.size
  have hsub : ∀ k, W.YG X w.heap.size (fun x => if x = nm then (none, 0) else G x) k → W.YG X w.heap.size G k := fun k hk => by
    rcases hk with hk | hk | ⟨x, ad, h3, h4⟩
    · exact .inl hk
    · exact .inr (.inl hk)
    · by_cases e : x = nm
      · simp only [e, if_true] at h3; cases h3
      · simp only [e, if_false] at h3
        exact .inr (.inr ⟨x, ad, h3, h4⟩)
  refine ⟨C.Fm.turn h.fm hz (fun k hk hY _ => hg.block k hk fun e => hY (.inr (.inl (Option.some.inj e)))) (fun k hk => .inl (hsub k hk)) (fun k hk => Nat.lt_of_lt_of_le (h.fm.xlt k (hsub k hk)) hz), h.grp.del nm h1 ht, ?_⟩
  refine ⟨by rw [hg.os]; exact h.kp.os, by rw [hg.tape]; exact h.kp.tape, by rw [hg.output]; exact h.kp.output, by omega, fun k hk hL => ?_⟩
  rw [hg.block k (by omega) fun e => by have := Option.some.inj e; omega]
  exact h.kp.block k hk hL
/-- the formula, as it went on -/
theorem W.NSt.end_ (h : W.NSt X w0 w wr p V cs fa fc n D G g) (hX : C.XLt X w) : C.FmPost X w w0.heap.size p V cs wr :=
  ⟨fa, fc, C.Fm.turn h.fm (Nat.le_refl _) (fun _ _ _ _ => rfl) (fun _ hk => .inl (.inl hk)) (hX.mono h.kp.size), h.kp⟩
end
end Go.Proofs.YtnmcajinaigcjaaGreatDoor
namespace Go.Proofs.YtnmcajinaigcjaaGreatDoor
open Go.RowKit Go.Maps Go.WideMaps
open Q (It Ver Tm Sp Rc Dm)
open Go.Proofs.YtnmcajinaigcjaaGreatDoor.C
variable {w0 w w' : World} {q p : Nat} {a b : Option Addr} {c e : Nat} {l : List Rc} {on : List Bool} {X : Nat → Prop}

theorem W.nmB_at {nm : List UInt8} {k : Nat} {r : Rc} (h : l[k]? = some r) : M.nmB l nm k = (r.name.toList == nm) := by unfold M.nmB; rw [h]; rfl
theorem W.ints_one {n : Nat} (hn : w.heap.size = n) (x : Int) (hx : C.I64 x) (t : TypeId) : C.Ints (w.alloc (.cells #[.int .i64 x] t)) (some ⟨n, 0, none⟩) [x] := by
  subst hn; exact C.Ints.one w x hx t
theorem W.look_run {B n : Nat} {D : DataW Value} (hown : W.OwnH w B n D) {s : ByteArray} (hkey : keyOf Tryz.prog 9 (.string s) = some (.string s.toList)) {v : Value} (hat : D.atKey (.string s.toList) (.held (.slice none 0 0)) = .held v) :
    (Instr.lookup 171 (.map (some B)) (.string s) false).run Tryz.prog w = .ok v w := by
  obtain ⟨v', ps, hrun, hv⟩ := hown.lookup keyedS Tryz.underlying171 (W.zeroRow w) rfl hkey
  rw [hat] at hv
  obtain rfl : v' = v := by
    unfold W.heldE at hv
    simp at hv; exact hv.1
  exact hrun
theorem W.put_run {B n : Nat} {D : DataW Value} (hown : W.OwnH w B n D) (hn : n < maxLen) {s : ByteArray} (hkey : keyOf Tryz.prog 9 (.string s) = some (.string s.toList)) (v : Value) :
    ∃ w', (Instr.mapUpdate 171 (.map (some B)) (.string s) v).run Tryz.prog w = .ok () w' ∧ W.OwnH w' B (n + 1) (D.put (.string s.toList) (.held v)) ∧ w.grownBy w' (some B) :=
  hown.update keyedS Tryz.underlying171 hn hkey rfl
theorem W.row_ne {wr : World} {base B n : Nat} {D : DataW Value} {G : List UInt8 → Option Addr × Nat} {g : List UInt8 → List Int} (h : W.Grp wr base B n D G g) (nm : List UInt8) (m c : Nat) : some B ≠ (Value.slice (G nm).1 m c).ownBlock := by
  intro e
  cases hG : (G nm).1 with
  | none => rw [hG] at e; simp [Value.ownBlock] at e
  | some ad =>
    rw [hG] at e
    simp [Value.ownBlock] at e
    obtain ⟨_, _, cur, hc⟩ := W.ownI_row (h.own nm) hG
    obtain ⟨es, clock, hB⟩ := h.map.blk
    rw [← e, hB] at hc; cases hc
theorem W.grp_off {k : Nat} (ho : on[k]? = some false) : (fun nm => M.grp l on nm (k + 1)) = fun nm => M.grp l on nm k := by
  funext nm
  unfold M.grp
  rw [M.pl_succ, W.onB_at ho]; simp
theorem W.grp_on {k : Nat} {r : Rc} (hr : l[k]? = some r) (ho : on[k]? = some true) : (fun x => if x = r.name.toList then M.grp l on r.name.toList k ++ [(k : Int) + 1] else M.grp l on x k) = fun nm => M.grp l on nm (k + 1) := by
  funext nm
  unfold M.grp
  rw [M.pl_succ _ (fun j => M.onB on j && M.nmB l nm j), W.onB_at ho, W.nmB_at hr]
  by_cases e : nm = r.name.toList
  · subst e; simp
  · have : (r.name.toList == nm) = false := by simp; exact fun h => e h.symm
    rw [if_neg e, this]; simp
theorem W.grp_len (l : List Rc) (on : List Bool) (nm : List UInt8) (k : Nat) : (M.grp l on nm k).length ≤ k := M.pl_length _ _
theorem W.grp_own {V : Nat} (hn : l.length ≤ V) (nm : List UInt8) : M.own V (M.grp l on nm l.length) = true := by
  rw [M.own_iff]
  intro z hz
  obtain ⟨i, h1, _, rfl⟩ := M.mem_pl.1 hz
  omega
theorem W.NSt.grow {wr WR w3 w5 : World} {V n k : Nat} {cs : List (List Int)} {fa : Option Addr} {fc : Nat} {D : DataW Value} {G : List UInt8 → Option Addr × Nat} {r : Rc} {ga a' : Option Addr} {gc gn c' : Nat} (h : W.NSt X w0 w wr p V ((M.offC on k).foldl M.addC cs) fa fc n D G (fun nm => M.grp l on nm k)) (hr : l[k]? = some r) (ho : on[k]? = some true)
    (hga : (G r.name.toList).1 = ga) (hgc : (G r.name.toList).2 = gc) (hgn : (M.grp l on r.name.toList k).length = gn) (hb : Below wr.heap.size wr WR) (hO : C.OwnI w3 w.heap.size a' c' (M.grp l on r.name.toList k ++ [(k : Int) + 1]))
    (hg : WR.grownBy w3 (Value.slice ga gn gc).ownBlock) (hat : C.LiesAt WR.heap.size ga a') (h2 : W.OwnH w5 w.heap.size (n + 1) (D.put (.string r.name.toList) (.held (.slice a' (gn + 1) c')))) (hg2 : w3.grownBy w5 (some w.heap.size)) :
    ∃ D' G', W.NSt X w0 w w5 p V ((M.offC on (k + 1)).foldl M.addC cs) fa fc (n + 1) D' G' (fun nm => M.grp l on nm (k + 1)) := by
  subst hga hgc hgn
  have hp := h.put r.name.toList hb hO hg hat (by rw [List.length_append]; exact h2) hg2
  have e1 : M.offC on (k + 1) = M.offC on k := by rw [M.offC_succ, W.onB_at ho]; simp
  rw [e1]
  have e2 := W.grp_on hr ho
  exact ⟨_, _, e2 ▸ hp⟩
theorem W.post_kp {base V : Nat} {cs : List (List Int)} (h : C.FmPost X w base p V cs w') : C.Kp X base w w' := by obtain ⟨_, _, _, h⟩ := h; exact h
/-- the rows that are left -/
def W.left (l : List Rc) (on : List Bool) (k : Nat) (nm : List UInt8) : List Int := if M.seen l nm k then [] else M.grp l on nm l.length
theorem W.left_zero (l : List Rc) (on : List Bool) : W.left l on 0 = fun nm => M.grp l on nm l.length := by
  funext nm; unfold W.left M.seen; simp
theorem W.left_own {V : Nat} (hn : l.length ≤ V) (k : Nat) (nm : List UInt8) : M.own V (W.left l on k nm) = true := by
  unfold W.left
  split
  · rfl
  · exact W.grp_own hn nm
theorem W.left_len (l : List Rc) (on : List Bool) (k : Nat) (nm : List UInt8) : (W.left l on k nm).length ≤ l.length := by
  unfold W.left
  split
  · simp
  · exact W.grp_len _ _ _ _
theorem W.left_del {k : Nat} {r : Rc} (hr : l[k]? = some r) : (fun x => if x = r.name.toList then [] else W.left l on k x) = W.left l on (k + 1) := by
  funext x
  unfold W.left M.seen
  rw [List.range_succ, List.any_append, List.any_cons, List.any_nil, Bool.or_false, W.nmB_at hr]
  by_cases e : x = r.name.toList
  · simp [e]
  · have : (r.name.toList == x) = false := by simp; exact fun h => e h.symm
    rw [if_neg e, this, Bool.or_false]
theorem W.left_one {k : Nat} {r : Rc} (hr : l[k]? = some r) : M.oneC (W.left l on k r.name.toList) = M.nameC l on k := by
  unfold W.left M.nameC
  rw [hr]
  simp only
  split <;> rfl
theorem W.names_len (l : List Rc) (on : List Bool) (hl : l.length ≤ 20) : ∀ k, (M.namesC l on k).length ≤ k * 400
  | 0 => by simp [M.namesC]
  | k + 1 => by
    rw [M.namesC_succ, List.length_append]
    have ih := W.names_len l on hl k
    have h1 : (M.nameC l on k).length ≤ 400 := by
      unfold M.nameC
      split
      · split
        · simp
        · rename_i r _ _
          refine Nat.le_trans (M.oneC_len _) ?_
          have h2 := W.grp_len l on r.name.toList l.length
          exact Nat.mul_le_mul (Nat.le_trans h2 hl) (Nat.le_trans h2 hl)
      · simp
    omega
theorem W.off_len (on : List Bool) (cs : List (List Int)) (k : Nat) : ((M.offC on k).foldl M.addC cs).length ≤ cs.length + k := by
  have h1 := M.addCs_length cs (M.offC on k)
  have h2 : (M.offC on k).length ≤ k := by
    unfold M.offC
    rw [List.length_map]
    exact Nat.le_trans (List.length_filter_le _ _) (by simp)
  omega
set_option maxHeartbeats 4000000 in
set_option maxRecDepth 100000 in
theorem W.names_any (V : Nat) (cs : List (List Int)) (fa : Option Addr) (fc : Nat) (hR : RIn w0 a b l on) (hl : on.length = l.length)
    (hW : W.Wr w0 w q p a b c e l on) (hF : C.Fm X w w0.heap.size p V cs fa fc) (hn : l.length ≤ V) (h20 : l.length ≤ 20) (hsm : cs.length ≤ 1000) :
    Calls Tryz.prog 72 #[.pointer (some ⟨q, 0, none⟩)] w fun e w' => e = .returned .nilIface ∧ C.FmPost X w w0.heap.size p V ((M.offC on l.length).foldl M.addC cs ++ M.namesC l on l.length) w' := by
  have hV := hF.vars
  have hX := hF.xlt
  obtain ⟨q0, q1, q2⟩ := hW.cells
  have hql := hW.lt
  have hlen := hR.recs.len
  have hlb := hR.bools.len
  have HR := Lib.hid hR
  have HL := Lib.hid hl
  have HW := Lib.hid hW
  have HX := Lib.hid hX
  have HN := Lib.hid hn
  have HST := Lib.hid (W.NSt.start hF)
  have ha1 : ∀ (w : World) (o : Obj), Below w.heap.size w (w.alloc o) := fun w o => (Below.refl _ _).alloc (Nat.le_refl _) o
  have A1 := Lib.hid ha1
  have hz1 := (ha1 w (.map #[] 0)).size
  have hmm := @run_makeMap Tryz.prog
  clear hR hl hW hF hn hX ha1
  go_enter Tryz.func72, Tryz.ntmps72
  go_wp2
  clear hmm
  go_loopw [4, 5, 6, 16] (fun _ _ _ i wr => ∃ (k : Nat) (fa : Option Addr) (fc n : Nat) (D : DataW Value) (G : List UInt8 → Option Addr × Nat), k ≤ l.length ∧ i = .int .i64 k ∧ n ≤ k ∧ W.NSt X w0 w wr p V ((M.offC on k).foldl M.addC cs) fa fc n D G (fun nm => M.grp l on nm k)) (fun _ _ _ i _ => l.length - (intOf i).toNat)
  case atStart => exact ⟨0, fa, fc, 0, _, _, Nat.zero_le _, rfl, Nat.le_refl _, HST.out⟩
  case round =>
    obtain ⟨k, fa2, fc2, n, D, G, hk, rfl, hnk, hst⟩ := hrel
    have hzr := hst.kp.size
    have hBlt := hst.grp.lt
    have hWr := HW.out.kp hst.kp
    obtain ⟨x0, x1, x2⟩ := hWr.cells
    have hqr := hWr.lt
    have HWR := Lib.hid hWr
    have HNS := Lib.hid hst
    clear hst hWr
    by_cases hlt : k < l.length
    · obtain ⟨r, hx⟩ : ∃ x, l[k]? = some x := ⟨l[k], by simp [hlt]⟩
      have hsz := SzName HR.out.recs hx
      obtain ⟨bb, off, pv, la, pvc, lc, da, dc, ca, cc, fv, fvc, rfl, hbl0, ⟨s0, s1, s2, s3, s4, s5, s6, s7, s8, s9, s10, s11, s12⟩, _, _, _, _⟩ := HR.out.recs.cellsRc hx
      have hbl : bb < wr.heap.size := Nat.lt_of_lt_of_le hbl0 HWR.out.bel.size
      have t0 := ((bcell HWR.out.bel).1 bb (off + k * 13) hbl0).trans s0
      have t1 := ((bcell HWR.out.bel).1 bb (off + k * 13 + 1) hbl0).trans s1
      have t2 := ((bcell HWR.out.bel).1 bb (off + k * 13 + 2) hbl0).trans s2
      have t3 := ((bcell HWR.out.bel).1 bb (off + k * 13 + 3) hbl0).trans s3
      have t4 := ((bcell HWR.out.bel).1 bb (off + k * 13 + 4) hbl0).trans s4
      have t5 := ((bcell HWR.out.bel).1 bb (off + k * 13 + 5) hbl0).trans s5
      have t6 := ((bcell HWR.out.bel).1 bb (off + k * 13 + 6) hbl0).trans s6
      have t7 := ((bcell HWR.out.bel).1 bb (off + k * 13 + 7) hbl0).trans s7
      have t8 := ((bcell HWR.out.bel).1 bb (off + k * 13 + 8) hbl0).trans s8
      have t9 := ((bcell HWR.out.bel).1 bb (off + k * 13 + 9) hbl0).trans s9
      have t10 := ((bcell HWR.out.bel).1 bb (off + k * 13 + 10) hbl0).trans s10
      have t11 := ((bcell HWR.out.bel).1 bb (off + k * 13 + 11) hbl0).trans s11
      have t12 := ((bcell HWR.out.bel).1 bb (off + k * 13 + 12) hbl0).trans s12
      have hic : k < on.length := by have := HL.out; omega
      obtain ⟨y, hy⟩ : ∃ y, on[k]? = some y := ⟨on[k], by simp [hic]⟩
      obtain ⟨b2, off2, rfl, hbl20, hcb⟩ := HR.out.bools.addr (by omega)
      have hbl2 : b2 < wr.heap.size := Nat.lt_of_lt_of_le hbl20 HWR.out.bel.size
      have hcy := ((bcell HWR.out.bel).1 b2 (off2 + k) hbl20).trans (hcb k y hy)
      have HK := Lib.hid (keyN hsz)
      have hof := M.offC_succ on k
      rw [W.onB_at hy] at hof
      have HOF := Lib.hid hof
      have HX2 := Lib.hid hx
      have HY := Lib.hid hy
      clear s0 s1 s2 s3 s4 s5 s6 s7 s8 s9 s10 s11 s12 hsz hcb hx hy hof
      cases y
      · have hof2 : (M.offC on (k + 1)).foldl M.addC cs = M.addC ((M.offC on k).foldl M.addC cs) [-((k : Int) + 1)] := by rw [HOF.out, List.foldl_append]; rfl
        have hln := W.off_len on cs k
        have hown : M.own V [-((k : Int) + 1)] = true := (M.own_iff _ _).2 fun z hz => by simp at hz; subst hz; have := HN.out; omega
        have HOF2 := Lib.hid hof2
        have HAD := Lib.hid (fun (o o2 : Obj) (b : Option Addr) (d : Nat) (hI : C.Ints ((wr.alloc o).alloc o2) b [-((k : Int) + 1)]) => (show Calls Tryz.prog 100 #[.pointer (some ⟨p, 0, none⟩), .slice b 1 d] ((wr.alloc o).alloc o2) _ from C.add_ok w0.heap.size p V _ fa2 fc2 b d [-((k : Int) + 1)] ((wr.alloc o).alloc o2) ((HNS.out.fm.below (A1.out wr o)).below (A1.out _ o2)) hI hown (by omega)))
        clear hof2 hln hown
        go_wp2_with fail
        (with_reducible refine (HAD.out _ _ _ _ (W.ints_one (by simp) (-((k : Int) + 1)) (by unfold C.I64; omega) _)).mono ?_)
        rintro e w3 ⟨rfl, hp⟩
        obtain ⟨fa3, fc3, hn3⟩ := ((HNS.out.below (A1.out wr _)).below (A1.out _ _)).post hp
        have HN3 := Lib.hid hn3
        clear hp hn3 HAD
        go_wp2
        go_roundw
        case rel => exact ⟨k + 1, fa3, fc3, n, D, G, by omega, by go_num, by omega, by rw [HOF2.out, W.grp_off HY.out]; exact HN3.out⟩
        case measure => simp [intOf]; omega
      · obtain ⟨WA, hWA⟩ : ∃ x, x = wr.alloc (Obj.cells #[.string r.chan, .string r.file, .string r.name, .string r.text, .int .i64 r.ver.ep, .slice pv r.ver.parts.length pvc, .slice la r.ver.loc.length lc, .string r.build, .int .i64 r.num, .int .i64 r.time, .slice da r.deps.length dc, .slice ca r.cons.length cc, .slice fv r.feats.length fvc] 69) := ⟨_, rfl⟩
        have hBA : Below wr.heap.size wr WA := hWA ▸ A1.out wr _
        have hzA : WA.heap.size = wr.heap.size + 1 := by rw [hWA]; simp
        have hnw := HNS.out.below hBA
        obtain ⟨ga, hga⟩ : ∃ x, (G r.name.toList).1 = x := ⟨_, rfl⟩
        obtain ⟨gc, hgc⟩ : ∃ x, (G r.name.toList).2 = x := ⟨_, rfl⟩
        obtain ⟨gn, hgn⟩ : ∃ x, (M.grp l on r.name.toList k).length = x := ⟨_, rfl⟩
        have hgk : gn ≤ k := hgn ▸ W.grp_len l on r.name.toList k
        have hat := hnw.grp.at_ r.name.toList
        have hgo := hnw.grp.own r.name.toList
        have hne2 : some wr.heap.size ≠ (Value.slice ga gn gc).ownBlock := by
          intro e
          cases hG : ga with
          | none => rw [hG] at e; simp [Value.ownBlock] at e
          | some ad =>
            rw [hG] at e
            simp [Value.ownBlock] at e
            have := (W.ownI_row (HNS.out.grp.own r.name.toList) (hga.trans hG)).1
            omega
        have hne := W.row_ne hnw.grp r.name.toList gn gc
        rw [hga, hgc, hgn] at hat
        rw [hga, hgc] at hgo
        rw [hga] at hne
        have hblt : w.heap.size < WA.heap.size := hnw.grp.lt
        have HM1 := Lib.hid (show W.OwnH WA.drew w.heap.size n D from hnw.grp.map)
        have HM2 := Lib.hid (fun (o : Obj) => (show W.OwnH (WA.alloc o).drew w.heap.size n D from (hnw.grp.below (A1.out WA o)).map))
        have HGO := Lib.hid (fun (o : Obj) => (show C.OwnI (WA.alloc o).drew w.heap.size ga gc (M.grp l on r.name.toList k) from hgo.below (A1.out WA o).drew))
        have HBA := Lib.hid (fun (o : Obj) => (show Below wr.heap.size wr (WA.alloc o).drew from (hBA.trans ((A1.out WA o).mono hBA.size)).drew))
        have HAT := Lib.hid hat
        have HNE := Lib.hid hne
        have HNE2 := Lib.hid hne2
        have HGA := Lib.hid hga
        have HGC := Lib.hid hgc
        have HGN := Lib.hid hgn
        have HWA := Lib.hid hWA
        clear hBA hnw hga hgc hgn hat hgo hne hne2 hWA
        have hbox : WA.cell? ⟨wr.heap.size, 2, none⟩ = some (.string r.name) := by rw [HWA.out]; simp
        go_wp2_with fail
        rw [← HWA.out]
        have hS : wr.heap.size < WA.heap.size := by omega
        have hwk : IntKind.i64.wrap ((k : Int) + 1) = (k : Int) + 1 := by rw [IntKind.wrap_i64]; omega
        have hl1 := W.look_run HM1.out HK.out HAT.out
        have hl2 := fun o => W.look_run (HM2.out o) HK.out HAT.out
        go_region_law
          (refine W.step_append rfl (.tmp 34) (.tmp 37) rfl w.heap.size ga gn gc (M.grp l on r.name.toList k) rfl HGN.out (HGO.out _) _ ((k : Int) + 1) rfl ?_ (by omega) ?_ ?_; (focus (rw [← hzA]; simp; done)); (focus (simp; omega)); intro a3 c3 w3 hO3 hg3 hat3; have hc3 : w3.cell? ⟨wr.heap.size, 2, none⟩ = some (.string r.name) := (World.cell?_of_block (a := ⟨wr.heap.size, 2, none⟩) (hg3.block wr.heap.size (by simp; omega) HNE2.out)).trans (((A1.out WA _).drew.cell (p := ⟨wr.heap.size, 2, none⟩) hS).trans hbox); obtain ⟨w5, hrun5, h5, hg5⟩ := W.put_run (W.OwnH.same (HM2.out _) (hg3.block w.heap.size (by simp; omega) HNE.out)) (by unfold maxLen; omega) HK.out (.slice a3 (gn + 1) c3); have H5 := Lib.hid h5; have HG5 := Lib.hid hg5; have HO3 := Lib.hid hO3; have HG3 := Lib.hid hg3; have HAT3 := Lib.hid hat3; clear hO3 hg3 hat3 h5 hg5)
        all_goals
          clear hl1 hl2 hwk hbox hrun5 hc3 hzA hS
          go_wp2
          go_roundw
          case rel =>
            obtain ⟨D5, G5, hq⟩ := HNS.out.grow HX2.out HY.out HGA.out HGC.out HGN.out (HBA.out _) HO3.out HG3.out HAT3.out H5.out HG5.out
            exact ⟨k + 1, fa2, fc2, n + 1, D5, G5, by omega, by go_num, by omega, hq⟩
          case measure => simp [intOf]; omega
    · obtain rfl : k = l.length := by omega
      have hns := HNS.out
      rw [← W.left_zero] at hns
      have hcl := W.off_len on cs l.length
      obtain ⟨cs1, hcs1⟩ : ∃ x, (M.offC on l.length).foldl M.addC cs = x := ⟨_, rfl⟩
      rw [hcs1] at hns hcl
      have HCS1 := Lib.hid hcs1
      have HNS0 := Lib.hid (show W.NSt X w0 w wr p V (cs1 ++ M.namesC l on 0) fa2 fc2 n D G (W.left l on 0) by simpa [M.namesC] using hns)
      obtain ⟨W2, hW2⟩ : ∃ x, x = wr := ⟨_, rfl⟩
      subst hW2
      clear hns hcs1 HNS
      go_wp2
      go_loopw [8, 9, 57] (fun _ _ i wr => ∃ (k : Nat) (fa : Option Addr) (fc : Nat) (D : DataW Value) (G : List UInt8 → Option Addr × Nat), k ≤ l.length ∧ i = .int .i64 k ∧ W.NSt X w0 w wr p V (cs1 ++ M.namesC l on k) fa fc n D G (W.left l on k)) (fun _ _ i _ => l.length - (intOf i).toNat)
      case atStart => exact ⟨0, fa2, fc2, D, G, Nat.zero_le _, rfl, HNS0.out⟩
      case round =>
        clear HNS0 HWR hqr x0 x1 x2 hzr hBlt fa2 fc2 D G
        obtain ⟨k, fa2, fc2, D, G, hk, rfl, hst⟩ := hrel
        have hzr := hst.kp.size
        have hBlt := hst.grp.lt
        have hWr := HW.out.kp hst.kp
        have hqr := hWr.lt
        have HWR := Lib.hid hWr
        have HNS := Lib.hid hst
        clear hst hWr
        by_cases hlt : k < l.length
        · obtain ⟨r, hx⟩ : ∃ x, l[k]? = some x := ⟨l[k], by simp [hlt]⟩
          have hsz := SzName HR.out.recs hx
          obtain ⟨bb, off, pv, la, pvc, lc, da, dc, ca, cc, fv, fvc, rfl, hbl0, ⟨s0, s1, s2, s3, s4, s5, s6, s7, s8, s9, s10, s11, s12⟩, _, _, _, _⟩ := HR.out.recs.cellsRc hx
          have hbl : bb < wr.heap.size := Nat.lt_of_lt_of_le hbl0 HWR.out.bel.size
          have t0 := ((bcell HWR.out.bel).1 bb (off + k * 13) hbl0).trans s0
          have t1 := ((bcell HWR.out.bel).1 bb (off + k * 13 + 1) hbl0).trans s1
          have t2 := ((bcell HWR.out.bel).1 bb (off + k * 13 + 2) hbl0).trans s2
          have t3 := ((bcell HWR.out.bel).1 bb (off + k * 13 + 3) hbl0).trans s3
          have t4 := ((bcell HWR.out.bel).1 bb (off + k * 13 + 4) hbl0).trans s4
          have t5 := ((bcell HWR.out.bel).1 bb (off + k * 13 + 5) hbl0).trans s5
          have t6 := ((bcell HWR.out.bel).1 bb (off + k * 13 + 6) hbl0).trans s6
          have t7 := ((bcell HWR.out.bel).1 bb (off + k * 13 + 7) hbl0).trans s7
          have t8 := ((bcell HWR.out.bel).1 bb (off + k * 13 + 8) hbl0).trans s8
          have t9 := ((bcell HWR.out.bel).1 bb (off + k * 13 + 9) hbl0).trans s9
          have t10 := ((bcell HWR.out.bel).1 bb (off + k * 13 + 10) hbl0).trans s10
          have t11 := ((bcell HWR.out.bel).1 bb (off + k * 13 + 11) hbl0).trans s11
          have t12 := ((bcell HWR.out.bel).1 bb (off + k * 13 + 12) hbl0).trans s12
          have HK := Lib.hid (keyN hsz)
          have HX2 := Lib.hid hx
          clear s0 s1 s2 s3 s4 s5 s6 s7 s8 s9 s10 s11 s12 hsz hx
          obtain ⟨WA, hWA⟩ : ∃ x, x = wr.alloc (Obj.cells #[.string r.chan, .string r.file, .string r.name, .string r.text, .int .i64 r.ver.ep, .slice pv r.ver.parts.length pvc, .slice la r.ver.loc.length lc, .string r.build, .int .i64 r.num, .int .i64 r.time, .slice da r.deps.length dc, .slice ca r.cons.length cc, .slice fv r.feats.length fvc] 69) := ⟨_, rfl⟩
          have hBA : Below wr.heap.size wr WA := hWA ▸ A1.out wr _
          have hzA : WA.heap.size = wr.heap.size + 1 := by rw [hWA]; simp
          have hblk : WA.heap[wr.heap.size]? = some (.cells #[.string r.chan, .string r.file, .string r.name, .string r.text, .int .i64 r.ver.ep, .slice pv r.ver.parts.length pvc, .slice la r.ver.loc.length lc, .string r.build, .int .i64 r.num, .int .i64 r.time, .slice da r.deps.length dc, .slice ca r.cons.length cc, .slice fv r.feats.length fvc] 69 (0, 0)) := hWA ▸ heap_alloc_new _ _
          have hnw := HNS.out.below hBA
          have hnd := HNS.out.below hBA.drew
          have hWa := HWR.out.below hBA
          obtain ⟨y0, y1, y2⟩ := hWa.cells
          have hqa := hWa.lt
          obtain ⟨ga, hga⟩ : ∃ x, (G r.name.toList).1 = x := ⟨_, rfl⟩
          obtain ⟨gc, hgc⟩ : ∃ x, (G r.name.toList).2 = x := ⟨_, rfl⟩
          obtain ⟨gn, hgn⟩ : ∃ x, (W.left l on k r.name.toList).length = x := ⟨_, rfl⟩
          have hgk : gn ≤ l.length := hgn ▸ W.left_len l on k r.name.toList
          have hat := hnw.grp.at_ r.name.toList
          have hgo := hnd.grp.own r.name.toList
          rw [hga, hgc, hgn] at hat
          rw [hga, hgc] at hgo
          have hown := W.left_own (l := l) (on := on) HN.out k r.name.toList
          have hnl := W.names_len l on h20 k
          have hcap := hgo.cap
          have hsq : gn * gn ≤ 400 := Nat.mul_le_mul (show gn ≤ 20 by omega) (show gn ≤ 20 by omega)
          have hone := C.one_ok w0.heap.size p V _ fa2 fc2 ga gc (W.left l on k r.name.toList) WA.drew hnd.fm (hgo.ints (W.own_i64 hV hown) (by rw [hgn]; omega)) hcap.1 hcap.2 hown (by rw [hgn]; omega) (by rw [hgn, List.length_append]; have : k * 400 ≤ 8000 := Nat.mul_le_mul_right 400 (show k ≤ 20 by omega); omega)
          rw [hgn, W.left_one HX2.out, List.append_assoc, ← M.namesC_succ] at hone
          have hl1 := W.look_run (show W.OwnH WA.drew w.heap.size n D from hnw.grp.map) HK.out hat
          have hbox : WA.cell? ⟨wr.heap.size, 2, none⟩ = some (.string r.name) := by rw [hWA]; simp
          have HONE := Lib.hid hone
          have HND := Lib.hid hnd
          have HBLK := Lib.hid (show WA.drew.heap[wr.heap.size]? = _ from hblk)
          have HWA := Lib.hid hWA
          have hS : wr.heap.size < WA.heap.size := by omega
          clear hBA hnw hnd hWa hga hgc hgn hat hgo hown hnl hcap hsq hone hblk hWA y1 y2
          go_wp2_with fail
          rw [← HWA.out]
          go_region_law
            (go_simp; go_at_call 101; (with_reducible refine HONE.out.mono ?_); rintro e3 w3 ⟨rfl, hp⟩; have hb3 := W.kp_blk (W.post_kp hp) HBLK.out (by decide) (by decide); obtain ⟨fa3, fc3, hn3⟩ := HND.out.post hp; have HN3 := Lib.hid hn3; have hcx : w3.cell? ⟨wr.heap.size, 2, none⟩ = some (.string r.name) := (cell_of_cells hb3 2).trans rfl; clear hp hn3 hb3)
          all_goals
            clear hl1 hbox hzA hS
            go_wp2_with (at_delete; refine wpList_delete_own _ rfl _ _ 171 9 rfl 31 keyedS Tryz.underlying171 _ w.heap.size n D rfl HN3.out.grp.map _ _ rfl HK.out ?_; intro w4 hown4 hturn4; have hn4 := HN3.out.del r.name.toList hown4 hturn4; rw [W.left_del HX2.out] at hn4; have HN4 := Lib.hid hn4; clear hn4 hown4 hturn4)
            go_roundw
            case rel => exact ⟨k + 1, fa3, fc3, _, _, by omega, by go_num, HN4.out⟩
            case measure => simp [intOf]; omega
        · obtain rfl : k = l.length := by omega
          go_wp2
          go_ret
          exact ⟨rfl, by rw [HCS1.out]; exact HNS.out.end_ HX.out⟩
end Go.Proofs.YtnmcajinaigcjaaGreatDoor

/- How a formula lies in memory. -/
import Derived.Test.YtgpifbhfnbkgoaaDoorNorm
import Derived.Test.YtgpifbhfnbkgoaaDoorOwnAt
import Derived.Test.YtgpifbhfnbkgoaaDoorCnfMath
namespace Go.Proofs.YtgpifbhfnbkgoaaDoor
open Go.RowKit

theorem Tryd.infoClause : (Tryd.prog.info? 73).map (fun i => (i.zero, i.size, i.bytes)) = some (some (.slice none 0 0), 1, 24) := by kernel_rfl

/-- the clauses' row, from block number base on -/
def OwnC (X : Nat → Prop) (w : World) (base : Nat) (a : Option Addr) (c : Nat) (cs : List (List Int)) : Prop :=
  OffX X a ∧ ∃ vals : List Value, w.ownsRow base 73 1 (.slice a cs.length c) cs.length vals ∧
    ∀ (i : Nat) (x : List Int), cs[i]? = some x → ∃ a' c', vals[i]? = some (Value.slice a' x.length c') ∧ Ints w a' x ∧ TagX X w a' ∧ x.length ≤ c' ∧ (a' = none → c' = 0)
/-- the formula at block p: so many variables, these clauses, their row at a; none of it lies in X -/
structure Fm (X : Nat → Prop) (w : World) (base p vars : Nat) (cs : List (List Int)) (a : Option Addr) (c : Nat) : Prop where
  le : base ≤ p
  blk : w.heap[p]? = some (.cells #[.int .i64 vars, .slice a cs.length c] 75 (0, 0))
  own : OwnC X w base a c cs
  vars : vars ≤ 20000
  len : cs.length ≤ 1000000
  xlt : XLt X w
  xp : ¬ X p
/-- nothing has turned but the formula's block and its row -/
structure KeepsF (p : Nat) (a : Option Addr) (w w' : World) : Prop where
  os : w'.os = w.os
  tape : w'.tape = w.tape
  output : w'.output = w.output
  size : w.heap.size ≤ w'.heap.size
  block : ∀ k, k < w.heap.size → k ≠ p → (∀ ad, a = some ad → k ≠ ad.block) → w'.heap[k]? = w.heap[k]?
variable {X : Nat → Prop}

theorem Fm.lt {w : World} {base p vars : Nat} {cs : List (List Int)} {a : Option Addr} {c : Nat} (h : Fm X w base p vars cs a c) : p < w.heap.size := (Array.getElem?_eq_some_iff.1 h.blk).1
theorem Fm.cell0 {w : World} {base p vars : Nat} {cs : List (List Int)} {a : Option Addr} {c : Nat} (h : Fm X w base p vars cs a c) : w.cell? ⟨p, 0, none⟩ = some (.int .i64 vars) := by rw [cell_of_cells h.blk]; rfl
theorem Fm.cell1 {w : World} {base p vars : Nat} {cs : List (List Int)} {a : Option Addr} {c : Nat} (h : Fm X w base p vars cs a c) : w.cell? ⟨p, 1, none⟩ = some (.slice a cs.length c) := by rw [cell_of_cells h.blk]; rfl
theorem Fm.frozen {w : World} {base p vars : Nat} {cs : List (List Int)} {a : Option Addr} {c : Nat} (h : Fm X w base p vars cs a c) (i : Nat) : w.frozen? ⟨p, i, none⟩ = false := by simp [World.frozen?, h.blk]
theorem OwnC.below {w w' : World} {base : Nat} {a : Option Addr} {c : Nat} {cs : List (List Int)} (h : OwnC X w base a c cs) (hb : Below w.heap.size w w') : OwnC X w' base a c cs := by
  obtain ⟨hx, vals, ho, hv⟩ := h
  refine ⟨hx, vals, ho.kept (row := none) ⟨hb.os, hb.tape, hb.output, hb.size, fun k hk _ => hb.block k hk⟩ ?_, fun i x hx => ?_⟩
  · cases a <;> simp [Value.ownBlock]
  · obtain ⟨a', c', h1, h2, h3, h4, h5⟩ := hv i x hx
    exact ⟨a', c', h1, h2.below hb, h3.below hb, h4, h5⟩
theorem Fm.below {w w' : World} {base p vars : Nat} {cs : List (List Int)} {a : Option Addr} {c : Nat} (h : Fm X w base p vars cs a c) (hb : Below w.heap.size w w') : Fm X w' base p vars cs a c :=
  ⟨h.le, (hb.block _ h.lt).trans h.blk, h.own.below hb, h.vars, h.len, h.xlt.mono hb.size, h.xp⟩
theorem KeepsF.refl (p : Nat) (a : Option Addr) (w : World) : KeepsF p a w w := ⟨rfl, rfl, rfl, Nat.le_refl _, fun _ _ _ _ => rfl⟩
theorem KeepsF.of_below {p : Nat} {a : Option Addr} {w w' : World} (h : Below w.heap.size w w') : KeepsF p a w w' := ⟨h.os, h.tape, h.output, h.size, fun k hk _ _ => h.block k hk⟩
theorem OwnC.row {w : World} {base : Nat} {a : Option Addr} {c : Nat} {cs : List (List Int)} (h : OwnC X w base a c cs) : ∀ ad, a = some ad → base ≤ ad.block ∧ ∃ cur, w.heap[ad.block]? = some (.cells cur 73 (0, 0)) := by
  intro ad e
  obtain ⟨_, vals, ho, _⟩ := h
  rcases ho.2 with ⟨e0, _⟩ | ⟨g, cap, cur, e0, hb, hg, _⟩
  · injection e0 with e1; rw [e] at e1; cases e1
  · injection e0 with e1; rw [e] at e1; cases e1; exact ⟨hb, cur, hg⟩
/-- a block that the formula leaves alone: it lies below base, in X, or among other things than formulas -/
def Left (X : Nat → Prop) (base : Nat) (w : World) (k : Nat) : Prop :=
  k < base ∨ X k ∨ ∃ cur e m, w.heap[k]? = some (.cells cur e m) ∧ e ≠ 73 ∧ e ≠ 75
theorem KeepsF.same {w w' : World} {base p vars : Nat} {cs : List (List Int)} {a : Option Addr} {c : Nat} (hk : KeepsF p a w w') (h : Fm X w base p vars cs a c) {k : Nat} (hlt : k < w.heap.size)
    (ho : Left X base w k) : w'.heap[k]? = w.heap[k]? := by
  refine hk.block k hlt ?_ ?_
  · rintro rfl
    rcases ho with ho | ho | ⟨cur, e, m, hc, h1, h2⟩
    · have := h.le; omega
    · exact h.xp ho
    · rw [h.blk] at hc; cases hc; exact h2 rfl
  · rintro ad e rfl
    obtain ⟨hb, cur, hg⟩ := h.own.row ad e
    rcases ho with ho | ho | ⟨cur', e', m, hc, h1, h2⟩
    · omega
    · exact h.own.1 ad e ho
    · rw [hg] at hc; cases hc; exact h1 rfl
theorem KeepsF.below {w w' : World} {base p vars : Nat} {cs : List (List Int)} {a : Option Addr} {c : Nat} (hk : KeepsF p a w w') (h : Fm X w base p vars cs a c) (hb : base ≤ w.heap.size) : Below base w w' :=
  ⟨hk.os, hk.tape, hk.output, hk.size, fun k hlt => hk.same h (by omega) (.inl hlt)⟩
/-- what lay below base, or in X, or lies among other things than formulas, stands -/
structure Kp (X : Nat → Prop) (base : Nat) (w w' : World) : Prop where
  os : w'.os = w.os
  tape : w'.tape = w.tape
  output : w'.output = w.output
  size : w.heap.size ≤ w'.heap.size
  block : ∀ k, k < w.heap.size → Left X base w k → w'.heap[k]? = w.heap[k]?
theorem KeepsF.kp {w w' : World} {base p vars : Nat} {cs : List (List Int)} {a : Option Addr} {c : Nat} (hk : KeepsF p a w w') (h : Fm X w base p vars cs a c) : Kp X base w w' :=
  ⟨hk.os, hk.tape, hk.output, hk.size, fun _ hlt ho => hk.same h hlt ho⟩
theorem Kp.refl (X : Nat → Prop) (base : Nat) (w : World) : Kp X base w w := ⟨rfl, rfl, rfl, Nat.le_refl _, fun _ _ _ => rfl⟩
theorem Kp.trans {base : Nat} {w w1 w2 : World} (h : Kp X base w w1) (h2 : Kp X base w1 w2) : Kp X base w w2 :=
  ⟨h2.os.trans h.os, h2.tape.trans h.tape, h2.output.trans h.output, Nat.le_trans h.size h2.size, fun k hk ho => by
    have e := h.block k hk ho
    rw [h2.block k (Nat.lt_of_lt_of_le hk h.size) ?_, e]
    rcases ho with ho | ho | ⟨cur, t, m, hc, h1, h2⟩
    · exact .inl ho
    · exact .inr (.inl ho)
    · exact .inr (.inr ⟨cur, t, m, e.trans hc, h1, h2⟩)⟩
theorem Kp.of_below {base : Nat} {w w' : World} (h : Below w.heap.size w w') : Kp X base w w' := ⟨h.os, h.tape, h.output, h.size, fun k hk _ => h.block k hk⟩
theorem Kp.below {base : Nat} {w w' : World} (h : Kp X base w w') (hb : base ≤ w.heap.size) : Below base w w' := ⟨h.os, h.tape, h.output, h.size, fun k hk => h.block k (by omega) (.inl hk)⟩
/-- where a list lies, if there is anything in it -/
def eff (b : Option Addr) (zs : List Int) : Option Addr := if zs = [] then none else b
theorem eff_nil (b : Option Addr) : eff b [] = none := rfl
theorem eff_some {b : Option Addr} {zs : List Int} {ad : Addr} (h : eff b zs = some ad) : b = some ad := by
  unfold eff at h; split at h
  · cases h
  · exact h
theorem eff_pos {b : Option Addr} {zs : List Int} (h : 0 < zs.length) : eff b zs = b := by
  unfold eff; rw [if_neg]; rintro rfl; simp at h
/-- what lies in one block reads as it did -/
theorem Ints.same {w w' : World} {b : Option Addr} {zs : List Int} (hz : Ints w b zs) (hs : w.heap.size ≤ w'.heap.size) (key : ∀ ad, b = some ad → w'.heap[ad.block]? = w.heap[ad.block]?) : Ints w' b zs := by
  refine ⟨fun h0 => ?_, hz.wf, hz.len⟩
  obtain ⟨b', off, rfl, hlt, hc⟩ := hz.addr h0
  refine ⟨b', off, rfl, Nat.lt_of_lt_of_le hlt hs, fun i z hi => ?_⟩
  exact (World.cell?_of_block (a := ⟨b', off + i, none⟩) (key ⟨b', off, none⟩ rfl)).trans (hc i z hi)
theorem Ints.sameE {w w' : World} {b : Option Addr} {zs : List Int} (hz : Ints w b zs) (hs : w.heap.size ≤ w'.heap.size) (key : ∀ ad, eff b zs = some ad → w'.heap[ad.block]? = w.heap[ad.block]?) : Ints w' b zs := by
  by_cases h0 : 0 < zs.length
  · rw [eff_pos h0] at key; exact hz.same hs key
  · exact ⟨fun h => absurd h h0, hz.wf, hz.len⟩
theorem TagI.same {w w' : World} {b : Option Addr} (ht : TagI w b) (key : ∀ ad, b = some ad → w'.heap[ad.block]? = w.heap[ad.block]?) : TagI w' b := fun ad e => by
  obtain ⟨cur, m, hc⟩ := ht ad e
  exact ⟨cur, m, (key ad e).trans hc⟩
theorem Kp.ints {base : Nat} {w w' : World} (hk : Kp X base w w') {b : Option Addr} {zs : List Int} (hz : Ints w b zs) (ht : TagI w b) : Ints w' b zs ∧ TagI w' b := by
  have key : ∀ ad, b = some ad → w'.heap[ad.block]? = w.heap[ad.block]? := by
    intro ad e
    obtain ⟨cur, m, hc⟩ := ht ad e
    exact hk.block _ (Array.getElem?_eq_some_iff.1 hc).1 (.inr (.inr ⟨cur, _, m, hc, by decide, by decide⟩))
  exact ⟨hz.same hk.size key, ht.same key⟩
/-- the formula goes on -/
def FmPost (X : Nat → Prop) (w : World) (base p vars : Nat) (cs : List (List Int)) (w' : World) : Prop :=
  ∃ a' c', Fm X w' base p vars cs a' c' ∧ Kp X base w w'

theorem new_any (w : World) :
    Calls Tryd.prog 7 #[] w fun e w' => e = .returned (.pointer (some ⟨w.heap.size, 0, none⟩)) ∧ w.alloc (.cells #[.int .i64 0, .slice none 0 0] 75) = w' := by
  go_enter Tryd.func7, Tryd.ntmps7
  go_wp2
  go_ret
  exact ⟨rfl, rfl⟩
theorem Fm.new (w : World) (base : Nat) (hb : base ≤ w.heap.size) (hX : XLt X w) : Fm X (w.alloc (.cells #[.int .i64 0, .slice none 0 0] 75)) base w.heap.size 0 [] none 0 :=
  ⟨hb, by show (w.heap.push _)[w.heap.size]? = _; simp, ⟨OffX.none X, [], World.ownsRow_nil _ _ _ _, fun i x h => by simp at h⟩, by omega, by simp, hX.mono (by simp), fun h => by have := hX _ h; omega⟩

theorem has_any (p vars : Nat) (b : Option Addr) (d : Nat) (zs : List Int) (w : World) (h0 : w.cell? ⟨p, 0, none⟩ = some (.int .i64 vars)) (hv : vars ≤ 20000) (hz : Ints w b zs) :
    Calls Tryd.prog 40 #[.pointer (some ⟨p, 0, none⟩), .slice b zs.length d] w fun e w' => e = .returned (.bool (M.own vars zs)) ∧ w = w' := by
  have hlen := hz.len
  go_enter Tryd.func40, Tryd.ntmps40
  go_wp2
  go_loop [6, 9] (fun _ i => ∃ k : Nat, k ≤ zs.length ∧ i = .int .i64 k ∧ M.own vars (zs.take k) = true) (fun _ i => zs.length - (intOf i).toNat)
  case atStart => exact ⟨0, Nat.zero_le _, rfl, rfl⟩
  case round =>
    obtain ⟨k, hk, rfl, hf⟩ := hrel
    have HF := Lib.hid hf
    clear hf
    by_cases hlt : k < zs.length
    · obtain ⟨b, off, rfl, hbl, hc⟩ := hz.addr (by omega)
      obtain ⟨z, hzk⟩ : ∃ z, zs[k]? = some z := ⟨zs[k], by simp [hlt]⟩
      have hcell := hc k z hzk
      have HZ := Lib.hid hzk
      clear hc hzk
      by_cases h1 : z = 0
      · have hb1 : (z == 0) = true := by simpa using h1
        have HE := Lib.hid h1
        clear h1
        go_wp2
        go_ret
        refine ⟨ret_bool ?_, rfl⟩
        exact (M.own_miss HZ.out (by rw [HE.out]; simp)).symm
      · have hb1 : (z == 0) = false := by simpa using h1
        by_cases h2 : z < -(vars : Int)
        · have hd : decide (z < -(vars : Int)) = true := by simpa using h2
          go_wp2
          go_ret
          exact ⟨ret_bool (M.own_miss HZ.out (by omega)).symm, rfl⟩
        · have hd : decide (z < -(vars : Int)) = false := by simpa using h2
          by_cases h3 : (vars : Int) < z
          · go_wp2
            go_ret
            exact ⟨ret_bool (M.own_miss HZ.out (by omega)).symm, rfl⟩
          · go_wp2
            go_round
            case rel => exact ⟨k + 1, by omega, by go_num, M.own_step HZ.out HF.out (by omega)⟩
            case measure => simp [intOf]; omega
    · go_wp2
      go_ret
      refine ⟨ret_bool ?_, rfl⟩
      have := HF.out
      rw [List.take_of_length_le (by omega)] at this
      exact this.symm
end Go.Proofs.YtgpifbhfnbkgoaaDoor

/- Rows of bools that the call makes; haversacklaw15.models. -/
import Derived.Test.YtdppmmimemmedaaDoorClauses
import Derived.Lib.RabinKarpLaws
namespace Go.Proofs.YtdppmmimemmedaaDoor
open Go.RowKit

theorem Tryd.infoBool : (Tryd.prog.info? 4).map (fun i => (i.zero, i.size, i.bytes)) = some (some (.bool false), 1, 1) := by kernel_rfl
theorem Tryd.infoBools : (Tryd.prog.info? 42).map (fun i => (i.zero, i.size, i.bytes)) = some (some (.slice none 0 0), 1, 24) := by kernel_rfl

def OwnB (w : World) (base : Nat) (a : Option Addr) (c : Nat) (m : List Bool) : Prop :=
  w.ownsRow base 4 1 (.slice a m.length c) m.length (m.map Value.bool)
theorem OwnB.parts {w : World} {base : Nat} {a : Option Addr} {c : Nat} {ys : List Bool} (h : OwnB w base a c ys) :
    (a = none ∧ c = 0 ∧ ys = []) ∨ ∃ g cur, a = some ⟨g, 0, none⟩ ∧ base ≤ g ∧ g < w.heap.size ∧ w.heap[g]? = some (.cells cur 4 (0, 0)) ∧ ys.length ≤ c ∧ c ≤ maxLen ∧ cur.size = c ∧ cur.toList.take ys.length = ys.map Value.bool := by
  rcases h.2 with ⟨e, hn⟩ | ⟨g, cap, cur, e, hb, hg, hn, hm, hs, ht⟩
  · injection e with e1 e2 e3
    exact .inl ⟨e1, e3, List.eq_nil_of_length_eq_zero e2⟩
  · injection e with e1 e2 e3
    subst e1 e3
    exact .inr ⟨g, cur, rfl, hb, (Array.getElem?_eq_some_iff.1 hg).1, hg, hn, hm, by simpa using hs, by simpa using ht⟩
theorem OwnB.cell {w : World} {base g c : Nat} {ys : List Bool} (h : OwnB w base (some ⟨g, 0, none⟩) c ys) {i : Nat} {z : Bool} (hz : ys[i]? = some z) : w.cell? ⟨g, i, none⟩ = some (.bool z) := by
  rcases h.parts with ⟨e, _⟩ | ⟨g', cur, e, hb, hlt, hg, hn, hm, hs, ht⟩
  · cases e
  · cases e
    rw [cell_of_cells hg]
    have hi : i < ys.length := by
      rcases Nat.lt_or_ge i ys.length with h' | h'
      · exact h'
      · rw [List.getElem?_eq_none h'] at hz; cases hz
    have e1 : (cur.toList.take ys.length)[i]? = (ys.map Value.bool)[i]? := by rw [ht]
    rw [List.getElem?_take, if_pos hi, List.getElem?_map, hz, Array.getElem?_toList] at e1
    exact e1
theorem OwnB.bools {w : World} {base : Nat} {a : Option Addr} {c : Nat} {ys : List Bool} (h : OwnB w base a c ys) (hl : ys.length ≤ 140737488351232) : Bools w a ys := by
  refine ⟨fun h0 => ?_, hl⟩
  rcases h.parts with ⟨_, _, rfl⟩ | ⟨g, cur, rfl, hb, hlt, hg, _⟩
  · simp at h0
  · exact ⟨g, 0, rfl, hlt, fun i z hz => by rw [Nat.zero_add]; exact h.cell hz⟩
theorem OwnB.kept {w w' : World} {base : Nat} {a : Option Addr} {c : Nat} {ys : List Bool} (h : OwnB w base a c ys) (hk : ∀ g cur, g < w.heap.size → w.heap[g]? = some (.cells cur 4 (0, 0)) → w'.heap[g]? = w.heap[g]?) : OwnB w' base a c ys := by
  refine ⟨h.1, ?_⟩
  rcases h.2 with h0 | ⟨g, cap, cur, e, hb, hg, hn, hm, hs, ht⟩
  · exact .inl h0
  · exact .inr ⟨g, cap, cur, e, hb, (hk g cur (Array.getElem?_eq_some_iff.1 hg).1 hg).trans hg, hn, hm, hs, ht⟩
theorem OwnB.below {w w' : World} {base : Nat} {a : Option Addr} {c : Nat} {ys : List Bool} (h : OwnB w base a c ys) (hb : Below w.heap.size w w') : OwnB w' base a c ys := h.kept fun g _ hlt _ => hb.block g hlt
theorem OwnB.frozen {w : World} {base g c : Nat} {ys : List Bool} (h : OwnB w base (some ⟨g, 0, none⟩) c ys) (i : Nat) : w.frozen? ⟨g, i, none⟩ = false := by
  rcases h.parts with ⟨e, _⟩ | ⟨g', cur, e, _, _, hg, _⟩
  · cases e
  · cases e; simp [World.frozen?, hg]
theorem OwnB.stored {w : World} {base g c : Nat} {ys : List Bool} (h : OwnB w base (some ⟨g, 0, none⟩) c ys) (j : Nat) (u : Bool) : OwnB (w.setCell ⟨g, j, none⟩ (.bool u)) base (some ⟨g, 0, none⟩) c (ys.set j u) := by
  have := (World.ownsRow.stored h j (.bool u)).1
  unfold OwnB
  rw [List.length_set, List.map_set]; exact this
theorem made_bools (n : Nat) : (madeCells (Value.bool false).cells (n * 1)).toList = (List.replicate n false).map Value.bool := by
  apply List.ext_getElem?
  intro i
  simp only [madeCells, Value.cells, Nat.mul_one, List.map_replicate]
  by_cases h : i < n
  · simp [h, Nat.mod_one]
  · simp [h]
/-- make([]bool, n) -/
theorem wpList_make_Bools {w : World} {ops : Array Oper} {rest : List Oper} {o : Oper} {act : Act} {Q : Exit → Act → World → Prop} (hgd : o.guard = none) (l c : Operand) (hop : o.op = Op.makeSlice 42 l c)
    (base n : Nat) (hl : act.eval l = .int .i64 n) (hc : act.eval c = .int .i64 n) (hn : n ≤ 140737488351232) (hbase : base ≤ w.heap.size)
    (h : ∀ w', OwnB w' base (some ⟨w.heap.size, 0, none⟩) n (List.replicate n false) → Below w.heap.size w w' → w.heap.size < w'.heap.size → wpList Tryd.prog ops Q rest (act.put o.dst (.slice (some ⟨w.heap.size, 0, none⟩) n n)) w') :
    wpList Tryd.prog ops Q (o :: rest) act w := by
  obtain ⟨i0, hi, hz0, hz1, hz2⟩ := info_parts Tryd.infoBool
  refine wpList_make_full w hgd l c 42 hop base 4 i0 (.bool false) 1 Tryd.underlying42 hi hz0 hz1 .i64 .i64 n n n hl hc rfl rfl (by rw [hz2]; omega) (by unfold maxLen; omega) hbase ?_
  intro w' h1 h2
  rw [made_bools] at h1
  have h3 : OwnB w' base (some ⟨w.heap.size, 0, none⟩) n (List.replicate n false) := by
    unfold OwnB; rw [List.length_replicate]; exact h1
  refine h w' h3 ⟨h2.os, h2.tape, h2.output, h2.size, fun k hk => h2.block k hk (by simp)⟩ ?_
  rcases h3.parts with ⟨e, _⟩ | ⟨g, cur, e, _, hlt, _⟩
  · cases e
  · cases e; exact hlt
/-- rows of bools, from block number base on -/
def OwnR (w : World) (base : Nat) (a : Option Addr) (c : Nat) (ms : List (List Bool)) : Prop :=
  ∃ vals : List Value, w.ownsRow base 42 1 (.slice a ms.length c) ms.length vals ∧
    ∀ (i : Nat) (m : List Bool), ms[i]? = some m → ∃ a', vals[i]? = some (Value.slice a' m.length m.length) ∧ OwnB w base a' m.length m
theorem OwnR.row {w : World} {base : Nat} {a : Option Addr} {c : Nat} {ms : List (List Bool)} (h : OwnR w base a c ms) : ∀ ad, a = some ad → base ≤ ad.block ∧ ∃ cur, w.heap[ad.block]? = some (.cells cur 42 (0, 0)) := by
  intro ad e
  obtain ⟨vals, ho, _⟩ := h
  rcases ho.2 with ⟨e0, _⟩ | ⟨g, cap, cur, e0, hb, hg, _⟩
  · injection e0 with e1; rw [e] at e1; cases e1
  · injection e0 with e1; rw [e] at e1; cases e1; exact ⟨hb, cur, hg⟩
theorem OwnR.below {w w' : World} {base : Nat} {a : Option Addr} {c : Nat} {ms : List (List Bool)} (h : OwnR w base a c ms) (hb : Below w.heap.size w w') : OwnR w' base a c ms := by
  obtain ⟨vals, ho, hv⟩ := h
  refine ⟨vals, ho.kept (row := none) ⟨hb.os, hb.tape, hb.output, hb.size, fun k hk _ => hb.block k hk⟩ ?_, fun i x hx => ?_⟩
  · cases a <;> simp [Value.ownBlock]
  · obtain ⟨a', h1, h2⟩ := hv i x hx
    exact ⟨a', h1, h2.below hb⟩
theorem OwnR.cellN {w : World} {base : Nat} {a : Option Addr} {c : Nat} {ms : List (List Bool)} (h : OwnR w base a c ms) {i : Nat} {m : List Bool} (hm : ms[i]? = some m) :
    ∃ g a', a = some ⟨g, 0, none⟩ ∧ w.cell? ⟨g, i, none⟩ = some (.slice a' m.length m.length) ∧ OwnB w base a' m.length m := by
  obtain ⟨vals, hr, hv⟩ := h
  obtain ⟨a1, e1, r⟩ := hv i m hm
  rcases hr.2 with ⟨_, hn⟩ | ⟨g, cap, cur, e, _, hg, _⟩
  · rw [List.eq_nil_of_length_eq_zero hn] at hm; simp at hm
  · injection e with e1' e2 e3
    subst e1'
    have := hr.cells (g := g) rfl i _ e1
    rw [addr_add, Nat.zero_add] at this
    exact ⟨g, a1, rfl, this, r⟩
theorem OwnR.cell {w : World} {base : Nat} {a : Option Addr} {c : Nat} {ms : List (List Bool)} (h : OwnR w base a c ms) {i : Nat} {m : List Bool} (hm : ms[i]? = some m) :
    ∃ g a' c', a = some ⟨g, 0, none⟩ ∧ w.cell? ⟨g, i, none⟩ = some (.slice a' m.length c') ∧ OwnB w base a' c' m := by
  obtain ⟨g, a', h1, h2, h3⟩ := h.cellN hm
  exact ⟨g, a', _, h1, h2, h3⟩
/-- append(rows, m) -/
theorem wpList_append_Row {w : World} {ops : Array Oper} {rest : List Oper} {o : Oper} {act : Act} {Q : Exit → Act → World → Prop} (hgd : o.guard = none) (s x : Operand)
    (ho : o.op = .call { callee := .builtin .append, args := #[s, x], argTypes := #[40, 40] })
    (base : Nat) (a : Option Addr) (n c : Nat) (ms : List (List Bool)) (hs : act.eval s = .slice a n c) (hn : ms.length = n) (hown : OwnR w base a c ms)
    (ad : Addr) (b : Option Addr) (k d : Nat) (m : List Bool) (hx : act.eval x = .slice (some ad) 1 1) (hcell : w.cell? ad = some (.slice b k d)) (hk : m.length = k) (hd : k = d) (hb : OwnB w base b d m) (hlen : n + 1 ≤ 1000000) (hbase : base ≤ w.heap.size)
    (h : ∀ a' c' w', OwnR w' base a' c' (ms ++ [m]) → Below base w w' → wpList Tryd.prog ops Q rest (act.put o.dst (.slice a' (n + 1) c')) w') :
    wpList Tryd.prog ops Q (o :: rest) act w := by
  subst hn hk hd
  obtain ⟨i0, hi, hz0, hz1, hz2⟩ := info_parts Tryd.infoBools
  have hrow := hown.row
  obtain ⟨vals, hr, hvals⟩ := hown
  have hvl : vals.length = ms.length := by simpa using hr.1
  refine wpList_append_own w hgd s x 40 ho base 42 i0 (.slice none 0 0) 1 24 Tryd.underlying40 hi hz0 hz1 hz2 rfl (by decide) _ _ _ hs hr ad 1 1 [.slice b m.length m.length] hx rfl ?_ ?_ ?_ ?_ hbase ?_
  · intro j u hj
    match j, hj with
    | 0, hj => simp at hj; subst hj; exact hcell
  · intro u hu; simp at hu; subst hu; rfl
  · unfold maxLen; omega
  · omega
  · intro v' w' h1 h2 _
    have hob : ∀ k, (Value.slice a ms.length c).ownBlock = some k → base ≤ k ∧ ∃ cur, w.heap[k]? = some (.cells cur 42 (0, 0)) := by
      intro k hk
      cases a with
      | none => simp [Value.ownBlock] at hk
      | some ad => simp [Value.ownBlock] at hk; subst hk; exact hrow ad rfl
    have hkp : ∀ {b' : Option Addr} {d' : Nat} {m' : List Bool}, OwnB w base b' d' m' → OwnB w' base b' d' m' := by
      intro b' d' m' h3
      refine h3.kept fun g cur hlt hg => h2.block g hlt fun e => ?_
      obtain ⟨_, cur', hc⟩ := hob g e.symm
      rw [hg] at hc; cases hc
    have hbel : Below base w w' := (Below.refl base w).grown h2 hbase (fun k hk => (hob k hk).1)
    have : ∃ a' c', v' = .slice a' (ms.length + 1) c' := by
      rcases h1.2 with ⟨_, hn⟩ | ⟨g, cap, cur, e, _⟩
      · omega
      · exact ⟨_, _, e⟩
    obtain ⟨a', c', rfl⟩ := this
    refine h a' c' w' ⟨vals ++ [.slice b m.length m.length], by simpa using h1, fun i y hy => ?_⟩ hbel
    by_cases hil : i < ms.length
    · rw [List.getElem?_append_left hil] at hy
      obtain ⟨a1, e1, e2⟩ := hvals i y hy
      exact ⟨a1, by rw [List.getElem?_append_left (by omega)]; exact e1, hkp e2⟩
    · have hil' : i = ms.length := by
        rcases Nat.lt_or_ge i (ms ++ [m]).length with h' | h'
        · simp at h'; omega
        · rw [List.getElem?_eq_none h'] at hy; cases hy
      subst hil'
      rw [List.getElem?_append_right (Nat.le_refl _)] at hy
      simp at hy; subst hy
      exact ⟨b, by rw [List.getElem?_append_right (by omega)]; simp [hvl], hkp hb⟩
/-- the k-th model of n variables -/
def M.model (n k : Nat) : List Bool := (List.range n).map fun i => k.testBit i
theorem M.model_length (n k : Nat) : (M.model n k).length = n := by simp [M.model]
def M.modelTo (n k j : Nat) : List Bool := (List.range j).map (fun i => k.testBit i) ++ List.replicate (n - j) false
theorem M.modelTo_set (n k j : Nat) (h : j < n) : (M.modelTo n k j).set j (k.testBit j) = M.modelTo n k (j + 1) := by
  unfold M.modelTo
  rw [show n - j = (n - (j + 1)) + 1 by omega, List.replicate_succ, List.set_append_right _ _ (by simp)]
  simp [List.range_succ]
theorem M.modelTo_length (n k j : Nat) (h : j ≤ n) : (M.modelTo n k j).length = n := by simp [M.modelTo]; omega
def M.models (n k : Nat) : List (List Bool) := (List.range k).map (M.model n)
theorem M.models_length (n k : Nat) : (M.models n k).length = k := by simp [M.models]
theorem M.models_succ (n k : Nat) : M.models n (k + 1) = M.models n k ++ [M.model n k] := by simp [M.models, List.range_succ]
theorem OwnR.made0 (w : World) (base : Nat) (hb : base ≤ w.heap.size) : OwnR (w.alloc (.cells #[] 42)) base (some ⟨w.heap.size, 0, none⟩) 0 [] :=
  ⟨[], World.ownsRow_made w #[] 0 hb (by decide) rfl, fun i m h => by simp at h⟩
def ModelsPost (w : World) (n N : Nat) (e : Ending) (w' : World) : Prop :=
  ∃ a c, e = .returned (.slice a N c) ∧ OwnR w' w.heap.size a c (M.models n N) ∧ Below w.heap.size w w'
theorem bit_at (k j : Nat) (hk : k ≤ 1000000) : (bits BinOp.and IntKind.i64 ((k : Int) / 2 ^ j) 1 == 1) = k.testBit j := by
  have e : ((k : Int) / 2 ^ j) = ((k / 2 ^ j : Nat) : Int) := by simp
  have hle : k / 2 ^ j ≤ k := Nat.div_le_self _ _
  rw [e, Go.Proofs.and_one _ (by omega), Nat.testBit_eq_decide_div_mod_eq, Bool.eq_iff_iff]
  simp only [beq_iff_eq, decide_eq_true_eq]
  omega
set_option maxHeartbeats 2000000 in
theorem models_any (n N : Nat) (w : World) (hn : n ≤ 10) (hN : N = 2 ^ n) :
    Calls Tryd.prog 20 #[.int .i64 n] w (ModelsPost w n N) := by
  have hNl : N ≤ 1024 := by rw [hN]; exact Nat.pow_le_pow_right (by omega) hn
  have hw : wrap64 ((2 : Int) ^ n) = (N : Int) := by
    have e : ((2 : Int) ^ n) = (N : Int) := by rw [hN]; simp
    rw [e]; exact IntWalk.wrap64_in _ ⟨by omega, by omega⟩
  have HW := Lib.hid hw
  clear hN hw
  go_enter Tryd.func20, Tryd.ntmps20
  go_wp2
  rw [HW.out]
  go_loopw [3, 10] (fun v i wr => ∃ (k : Nat) (a : Option Addr) (c : Nat), k ≤ N ∧ i = .int .i64 k ∧ v = .slice a k c ∧ OwnR wr w.heap.size a c (M.models n k) ∧ Below w.heap.size w wr) (fun _ i _ => N - (intOf i).toNat)
  case atStart => exact ⟨0, _, 0, Nat.zero_le _, rfl, rfl, OwnR.made0 w _ (Nat.le_refl _), (Below.refl _ _).alloc (Nat.le_refl _) _⟩
  case round =>
    obtain ⟨k, a, c, hk, rfl, rfl, ho, hb⟩ := hrel
    have HO := Lib.hid ho
    have HB := Lib.hid hb
    clear ho hb
    by_cases hlt : k < N
    · obtain ⟨wo, rfl⟩ : ∃ wo : World, wo = wr := ⟨_, rfl⟩
      go_wp2_with (at_make; refine wpList_make_Bools rfl (.tmp 13) (.tmp 13) rfl w.heap.size n rfl rfl (by omega) HB.out.size ?_; intro w1 hown hb1 hlt1; have HO1 := Lib.hid hown; have HB1 := Lib.hid hb1; clear hown hb1)
      go_loopw [6, 17] (fun _ i wr => ∃ j : Nat, j ≤ n ∧ i = .int .i64 j ∧ OwnB wr w.heap.size (some ⟨wo.heap.size, 0, none⟩) n (M.modelTo n k j) ∧ Below wo.heap.size wo wr) (fun _ i _ => n - (intOf i).toNat)
      case atStart => exact ⟨0, Nat.zero_le _, rfl, by simpa [M.modelTo] using HO1.out, HB1.out⟩
      case round =>
        obtain ⟨j, hj, rfl, ho2, hb2⟩ := hrel
        have HO2 := Lib.hid ho2
        have HB2 := Lib.hid hb2
        clear ho2 hb2
        by_cases hjl : j < n
        · have hfz := HO2.out.frozen j
          obtain ⟨y, hy⟩ : ∃ y, (M.modelTo n k j)[j]? = some y := ⟨_, List.getElem?_eq_getElem (by rw [M.modelTo_length _ _ _ hj]; exact hjl)⟩
          have hcell := HO2.out.cell hy
          clear hy
          go_wp2
          go_roundw
          case rel =>
            rw [bit_at k j (by omega)]
            exact ⟨j + 1, by omega, by go_num, by rw [← M.modelTo_set n k j hjl]; exact HO2.out.stored j _, HB2.out.setCell (Nat.le_refl _) _⟩
          case measure => simp [intOf]; omega
        · have hmod : M.modelTo n k j = M.model n k := by
            obtain rfl : j = n := by omega
            simp [M.modelTo, M.model]
          have hO3 : OwnB wr w.heap.size (some ⟨wo.heap.size, 0, none⟩) n (M.model n k) := by rw [← hmod]; exact HO2.out
          have HO3 := Lib.hid hO3
          have HOR := Lib.hid (HO.out.below HB2.out)
          have HBW := Lib.hid (below_next HB.out HB2.out)
          clear hmod hO3 HO2 HO
          go_wp2_with (at_builtin; refine wpList_append_Row rfl (.tmp 29) (.tmp 31) rfl w.heap.size _ _ _ (M.models n k) rfl (M.models_length n k) (HOR.out.below (below_alloc (Below.refl _ _) _)) ⟨wr.heap.size, 0, none⟩ (some ⟨wo.heap.size, 0, none⟩) n n (M.model n k) rfl (by simp) (M.model_length n k) rfl (HO3.out.below (below_alloc (Below.refl _ _) _)) (by omega) (put_size1 HBW.out) ?_; intro a3 c3 w3 hown3 hB3; have HO4 := Lib.hid hown3; have HB4 := Lib.hid (put_below2 HBW.out hB3); clear hown3 hB3)
          go_roundw
          case rel => exact ⟨k + 1, a3, c3, by omega, by go_num, rfl, by rw [M.models_succ]; exact HO4.out, HB4.out⟩
          case measure => simp [intOf]; omega
    · go_wp2
      go_ret
      obtain rfl : k = N := by omega
      exact ⟨a, c, rfl, HO.out, HB.out⟩
end Go.Proofs.YtdppmmimemmedaaDoor

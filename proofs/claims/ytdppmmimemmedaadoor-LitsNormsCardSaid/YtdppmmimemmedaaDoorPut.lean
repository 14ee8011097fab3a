/- lits.Propagate: place; the set and the queue; put (the closure). -/
import Derived.Test.YtdppmmimemmedaaDoorOwnAt
import Derived.Test.YtdppmmimemmedaaDoorBox
import Derived.Maps.OwnSet
namespace Go.Proofs.YtdppmmimemmedaaDoor
open Go.RowKit Go.Shelf

namespace M
theorem length_le_of_mem : ∀ (q r : List Int), q.Nodup → (∀ z ∈ q, z ∈ r) → q.length ≤ r.length
  | [], _, _, _ => by simp
  | x :: t, r, hn, hm => by
    obtain ⟨h1, h2⟩ := List.nodup_cons.1 hn
    have hx := hm x (by simp)
    have := length_le_of_mem t (r.erase x) h2 fun z hz => (List.mem_erase_of_ne (show z ≠ x from fun e => h1 (e ▸ hz))).2 (hm z (by simp [hz]))
    rw [List.length_erase_of_mem hx] at this
    have := List.length_pos_of_mem hx
    simp; omega
theorem lits_length {q : List Int} (hn : q.Nodup) (hl : ∀ z ∈ q, isLit z = true) : q.length ≤ 40001 := by
  have := length_le_of_mem q ((List.range 40001).map fun n : Nat => (n : Int) - 20000) hn fun z hz => by
    have := (isLit_iff z).1 (hl z hz)
    exact List.mem_map.2 ⟨(z + 20000).toNat, by simp; omega, by omega⟩
  simpa using this
def place (l : Int) : Int := if l < 0 then -2 * l - 2 else 2 * l - 1
/-- a literal is set -/
def add (q : List Int) (x : Int) : List Int := if x ∈ q then q else q ++ [x]
theorem mem_add (q : List Int) (x y : Int) : y ∈ add q x ↔ y = x ∨ y ∈ q := by
  unfold add; split
  · constructor
    · exact .inr
    · rintro (rfl | h) <;> assumption
  · simp; exact Or.comm
theorem add_nodup {q : List Int} (h : q.Nodup) (x : Int) : (add q x).Nodup := by
  unfold add; split
  · exact h
  · rename_i hx; exact List.nodup_append.2 ⟨h, by simp, fun a ha b hb => by simp at hb; subst hb; exact fun e => hx (e ▸ ha)⟩
theorem add_lit {q : List Int} (h : ∀ z ∈ q, isLit z = true) {x : Int} (hx : isLit x = true) : ∀ z ∈ add q x, isLit z = true := by
  intro z hz
  rcases (mem_add q x z).1 hz with rfl | hz
  · exact hx
  · exact h z hz
end M

theorem place_any (l : Int) (w : World) (h : M.isLit l = true) :
    Calls Tryd.prog 66 #[.int .i64 l] w fun e w' => e = .returned (.int .i64 (M.place l)) ∧ w' = w := by
  have hb := (M.isLit_iff l).1 h
  obtain ⟨h0, h1, h2⟩ := hb
  clear h
  go_enter Tryd.func66, Tryd.ntmps66
  go_wp2
  · go_ret
    exact ⟨ret_int (by unfold M.place; rw [if_pos (by assumption)]), rfl⟩
  · go_ret
    exact ⟨ret_int (by unfold M.place; rw [if_neg (by omega)]), rfl⟩

theorem keyedInt : Go.Maps.Keyed Tryd.prog 3 := Go.Maps.int_keyed Tryd.underlying3
theorem zeroU (w : World) : (zeroValue 90).run Tryd.prog w = .ok (.agg #[]) w := by kernel_rfl
theorem keyI (x : Int) (h : M.isLit x = true) : keyOf Tryd.prog 3 (.int .i64 x) = some (.int .i64 x) := Go.Maps.keyOf_int_mk Tryd.underlying3 (by have := (M.isLit_iff x).1 h; simp [Lit.wf, IntKind.min, IntKind.max, IntKind.signed, IntKind.bits]; omega)
def Sq (q : List Int) : DataW Unit := Go.Maps.setOf (.agg []) (q.map (Lit.int .i64))
theorem Sq_snoc (q : List Int) (x : Int) : Sq (q ++ [x]) = (Sq q).put (.int .i64 x) (.agg []) := by
  unfold Sq; rw [List.map_append]; exact Go.Maps.setOf_snoc _ _ _
theorem has_Sq (q : List Int) (x : Int) : Go.Maps.has (Sq q) (.int .i64 x) = M.inn q x := by
  unfold Sq
  rw [Go.Maps.has_setOf _ _ _ (fun y hy => by obtain ⟨z, _, rfl⟩ := List.mem_map.1 hy; trivial)]
  unfold M.inn
  induction q with
  | nil => rfl
  | cons z l ih => simp only [List.map_cons, List.any_cons, ih]; simp [Lit.sameKey]; rw [Bool.eq_iff_iff]; simp; exact ⟨fun h => h.imp Eq.symm id, fun h => h.imp Eq.symm id⟩

/-- the set and the queue -/
structure PQ (w : World) (base Bs Bq bm : Nat) (q : List Int) (a : Option Addr) (c : Nat) : Prop where
  bs : Box w Bs (.map (some bm)) 89
  bq : Box w Bq (.slice a q.length c) 27
  own : OwnI w base a c q
  map : w.ownsMap Tryd.prog 3 (unitElem (H := Unit)) bm q.length (Sq q)
  lbq : base ≤ Bq
  lbm : base ≤ bm
  nd : q.Nodup
  lit : ∀ z ∈ q, M.isLit z = true
/-- what lies elsewhere stands -/
structure PFr (base Bq bm : Nat) (a : Option Addr) (w w' : World) : Prop where
  below : Below base w w'
  same : ∀ k, k < w.heap.size → k ≠ Bq → k ≠ bm → (∀ ad, a = some ad → ad.block ≠ k) → w'.heap[k]? = w.heap[k]?
theorem PFr.size {base Bq bm : Nat} {a : Option Addr} {w w' : World} (h : PFr base Bq bm a w w') : w.heap.size ≤ w'.heap.size := h.below.size
theorem PFr.refl (base Bq bm : Nat) (a : Option Addr) (w : World) : PFr base Bq bm a w w := ⟨Below.refl _ _, fun _ _ _ _ _ => rfl⟩
/-- the queue lies where it lay, or in a new block -/
def LiesG (n : Nat) (a a' : Option Addr) : Prop := ∀ ad', a' = some ad' → (∃ ad, a = some ad ∧ ad.block = ad'.block) ∨ n ≤ ad'.block
theorem LiesG.refl (n : Nat) (a : Option Addr) : LiesG n a a := fun ad e => .inl ⟨ad, e, rfl⟩
theorem LiesG.trans {n n' : Nat} {a b c : Option Addr} (h : LiesG n a b) (h' : LiesG n' b c) (hn : n ≤ n') : LiesG n a c := fun ad e => by
  rcases h' ad e with ⟨ad1, e1, e2⟩ | h2
  · rcases h ad1 e1 with ⟨ad0, e0, e3⟩ | h3
    · exact .inl ⟨ad0, e0, e3.trans e2⟩
    · exact .inr (by omega)
  · exact .inr (by omega)
theorem PFr.trans {base Bq bm : Nat} {a b : Option Addr} {w w1 w2 : World} (h : PFr base Bq bm a w w1) (hl : LiesG w.heap.size a b) (h2 : PFr base Bq bm b w1 w2) : PFr base Bq bm a w w2 :=
  ⟨h.below.trans h2.below, fun k hk h3 h4 h5 => (h2.same k (by have := h.size; omega) h3 h4 (fun ad e he => by
    rcases hl ad e with ⟨ad0, e0, e1⟩ | h6
    · exact h5 ad0 e0 (e1.trans he)
    · omega)).trans (h.same k hk h3 h4 h5)⟩
theorem PFr.alloc {base Bq bm : Nat} {a : Option Addr} {w w1 : World} (h : PFr base Bq bm a w w1) (hb : base ≤ w.heap.size) (o : Obj) : PFr base Bq bm a w (w1.alloc o) :=
  ⟨h.below.alloc (Nat.le_trans hb h.size) o, fun k hk h3 h4 h5 => (Below.heap_alloc _ _ k (by have := h.size; omega)).trans (h.same k hk h3 h4 h5)⟩
theorem PQ.alloc {w : World} {base Bs Bq bm : Nat} {q : List Int} {a : Option Addr} {c : Nat} (h : PQ w base Bs Bq bm q a c) (o : Obj) : PQ (w.alloc o) base Bs Bq bm q a c :=
  ⟨h.bs.below ((Below.refl _ _).alloc (Nat.le_refl _) o), h.bq.below ((Below.refl _ _).alloc (Nat.le_refl _) o), h.own.alloc o, h.map.alloc o, h.lbq, h.lbm, h.nd, h.lit⟩
/-- what put answers -/
def PutPost (w : World) (base Bs Bq bm : Nat) (q : List Int) (a : Option Addr) (x : Int) (e : Ending) (w' : World) : Prop :=
  (e = .returned (.bool false) ∧ -x ∈ q ∧ PFr base Bq bm a w w') ∨
  (e = .returned (.bool true) ∧ -x ∉ q ∧ ∃ a' c', PQ w' base Bs Bq bm (M.add q x) a' c' ∧ LiesG w.heap.size a a' ∧ PFr base Bq bm a w w')
theorem PQ.blkQ {w : World} {base Bs Bq bm : Nat} {q : List Int} {a : Option Addr} {c : Nat} (h : PQ w base Bs Bq bm q a c) : ∀ k, (Value.slice a q.length c).ownBlock = some k → base ≤ k ∧ k < w.heap.size ∧ k ≠ Bs ∧ k ≠ Bq ∧ k ≠ bm ∧ ∃ ad, a = some ad ∧ ad.block = k := by
  intro k hk
  rcases h.own.parts with ⟨rfl, _, _⟩ | ⟨g, cur, rfl, hb, hg, _⟩
  · simp [Value.ownBlock] at hk
  · simp [Value.ownBlock] at hk
    subst hk
    rename_i hr
    obtain ⟨hgc, _⟩ := hr
    have e1 := h.bs
    have e2 := h.bq
    obtain ⟨es, cl, e3, _⟩ := h.map
    unfold Box at e1 e2
    refine ⟨hb, hg, ?_, ?_, ?_, _, rfl, rfl⟩
    · rintro rfl; rw [hgc] at e1; cases e1
    · rintro rfl; rw [hgc] at e2; cases e2
    · rintro rfl; rw [hgc] at e3; cases e3
theorem pput_step {w w3 : World} {base Bs Bq bm : Nat} {q : List Int} {a : Option Addr} {c : Nat} (h : PQ w base Bs Bq bm q a c) (hne : Bq ≠ bm) (hg : w.grownBy w3 (some bm)) : w3.cell? ⟨Bq, 0, none⟩ = some (.slice a q.length c) := by
  have : Box w3 Bq (.slice a q.length c) 27 := (hg.block Bq h.bq.lt (fun e => hne (by cases e; rfl))).trans h.bq
  exact this.cell
theorem pput_own {w w3 : World} {base Bs Bq bm : Nat} {q : List Int} {a : Option Addr} {c : Nat} (h : PQ w base Bs Bq bm q a c) (hg : w.grownBy w3 (some bm)) : OwnI w3 base a c q :=
  h.own.kept fun g cur hl hc => hg.block g hl (fun e => by
    obtain ⟨es, cl, e3, _⟩ := h.map
    cases e
    rw [hc] at e3; cases e3)
theorem box_frozen {w : World} {q : Nat} {v : Value} {t : TypeId} (h : Box w q v t) : w.frozen? ⟨q, 0, none⟩ = false := by unfold Box at h; simp [World.frozen?, h]
theorem heap_setCell_box {W : World} {B : Nat} {v : Value} {t : TypeId} (v' : Value) (h : W.heap[B]? = some (.cells #[v] t (0, 0))) : (W.setCell ⟨B, 0, none⟩ v').heap[B]? = some (.cells #[v'] t (0, 0)) := by
  obtain ⟨hlt, hk⟩ := Array.getElem?_eq_some_iff.1 h
  show (W.heap.modify B _)[B]? = _
  rw [Array.getElem?_eq_getElem (by rw [Array.size_modify]; exact hlt), Array.getElem_modify_self, hk]
  rfl
/-- the queue has grown -/
theorem pput_box {w w3 w4 : World} {base Bs Bq bm : Nat} {q : List Int} {a : Option Addr} {c : Nat} {o : Obj} (h : PQ w base Bs Bq bm q a c) (hne : Bq ≠ bm) (hg : w.grownBy w3 (some bm))
    (hg4 : (w3.alloc o).grownBy w4 (Value.slice a q.length c).ownBlock) : Box w4 Bq (.slice a q.length c) 27 := by
  have h3 : Box w3 Bq (.slice a q.length c) 27 := (hg.block Bq h.bq.lt (fun e => hne (by cases e; rfl))).trans h.bq
  have h3' := h3.below ((Below.refl _ _).alloc (Nat.le_refl _) o)
  exact (hg4.block Bq h3'.lt (fun e => (h.blkQ Bq e.symm).2.2.2.1 rfl)).trans h3'
theorem pput_end {w w3 w4 : World} {base Bs Bq bm : Nat} {q : List Int} {a a' : Option Addr} {c c' : Nat} {o : Obj} {x : Int} (h : PQ w base Bs Bq bm q a c) (hb : base ≤ w.heap.size) (hx : M.isLit x = true) (hn : x ∉ q) (hne : Bq ≠ bm) (hg : w.grownBy w3 (some bm))
    (hmap : w3.ownsMap Tryd.prog 3 (unitElem (H := Unit)) bm (q.length + 1) ((Sq q).put (.int .i64 x) (.agg [])))
    (hg4 : (w3.alloc o).grownBy w4 (Value.slice a q.length c).ownBlock) (hown : OwnI w4 base a' c' (q ++ [x])) (hl : LiesAt (w3.alloc o).heap.size a a') :
    PQ (w4.setCell ⟨Bq, 0, none⟩ (.slice a' (q.length + 1) c')) base Bs Bq bm (M.add q x) a' c' ∧ LiesG w.heap.size a a' ∧ PFr base Bq bm a w (w4.setCell ⟨Bq, 0, none⟩ (.slice a' (q.length + 1) c')) := by
  have hq := pput_box h hne hg hg4
  have s3 := hg.size
  have s4 := hg4.size
  simp only [World.size_alloc] at s4
  have hadd : M.add q x = q ++ [x] := by unfold M.add; rw [if_neg hn]
  have hlen : (q ++ [x]).length = q.length + 1 := by simp
  have hblk : ∀ k, k < w.heap.size → k ≠ Bq → k ≠ bm → (∀ ad, a = some ad → ad.block ≠ k) → (w4.setCell ⟨Bq, 0, none⟩ (.slice a' (q.length + 1) c')).heap[k]? = w.heap[k]? := fun k hk h1 h2 h3 => by
    rw [Below.heap_setCell _ _ _ _ h1]
    refine (hg4.block k (by simp; omega) (fun e => ?_)).trans ((Below.heap_alloc _ _ k (by omega)).trans (hg.block k hk (fun e => h2 (by cases e; rfl))))
    obtain ⟨_, _, _, _, _, ad, e1, e2⟩ := h.blkQ k e.symm
    exact h3 ad e1 e2
  have hsm : Bs ≠ bm := fun e => by obtain ⟨es, cl, e3, _⟩ := h.map; have e2 := h.bs; unfold Box at e2; rw [e] at e2; rw [e2] at e3; cases e3
  have hsq : Bs ≠ Bq := fun e => by have e1 := h.bs; have e2 := h.bq; unfold Box at e1 e2; rw [e, e2] at e1; cases e1
  have hbm : bm < w.heap.size := h.map.lt
  refine ⟨⟨?_, ?_, ?_, ?_, h.lbq, h.lbm, M.add_nodup h.nd x, M.add_lit h.lit hx⟩, ?_, ?_, hblk⟩
  · refine (hblk Bs h.bs.lt hsq hsm (fun ad e e2 => ?_)).trans h.bs
    obtain ⟨hw, _⟩ := h.own.cap
    rcases h.own.parts with ⟨rfl, _, _⟩ | ⟨g, cur, rfl, _, _, hgc, _⟩
    · cases e
    · cases e; simp at e2; subst e2; have e1 := h.bs; unfold Box at e1; rw [hgc] at e1; cases e1
  · have := heap_setCell_box (.slice a' (q.length + 1) c') hq
    rw [hadd, hlen]; exact this
  · rw [hadd]
    refine hown.kept fun g cur hgl hgc => Below.heap_setCell _ _ _ _ (fun e => ?_)
    simp only at e; subst e
    unfold Box at hq; rw [hgc] at hq; cases hq
  · rw [hadd, hlen, Sq_snoc]
    refine World.ownsMap.setCell ?_ (fun e => hne e.symm) _
    exact (hmap.alloc o).kept hg4 (fun e => (h.blkQ bm e.symm).2.2.2.2.1 rfl)
  · intro ad e
    rcases hl ad e with h1 | h1
    · exact .inl h1
    · refine .inr ?_; rw [h1]; simp; omega
  · have hbel : Below base w w4 := (((Below.refl base w).grown hg hb (fun k e => by cases e; exact h.lbm)).alloc (by omega) o).grown hg4 (by simp; omega) (fun k e => (h.blkQ k e).1)
    exact hbel.setCell (p := ⟨Bq, 0, none⟩) h.lbq _
set_option maxRecDepth 100000 in
set_option maxHeartbeats 2000000 in
theorem pput_any (base Bs Bq bm : Nat) (q : List Int) (a : Option Addr) (c : Nat) (x : Int) (w : World) (h : PQ w base Bs Bq bm q a c) (hb : base ≤ w.heap.size) (hx : M.isLit x = true) :
    Calls Tryd.prog 63 #[.int .i64 x, .pointer (some ⟨Bs, 0, none⟩), .pointer (some ⟨Bq, 0, none⟩)] w (PutPost w base Bs Bq bm q a x) := by
  have hbd := (M.isLit_iff x).1 hx
  obtain ⟨h0, h1, h2⟩ := hbd
  have hk := keyI x hx
  have hkn := keyI (-x) (by rw [M.isLit_neg]; exact hx)
  have hcs := h.bs.cell
  have hcq := h.bq.cell
  have hmap := h.map
  have hlen := M.lits_length h.nd h.lit
  have H := Lib.hid h
  have HX := Lib.hid hx
  clear h hx
  have hhn := has_Sq q (-x)
  have hhx := has_Sq q x
  have H1 := Lib.hid (H.out.alloc (.cells #[] 90))
  have H2 := Lib.hid (H1.out.alloc (.cells #[] 90))
  have hcs1 := H1.out.bs.cell
  have hcs2 := H2.out.bs.cell
  have hmap2 := H2.out.map
  have hneq : Bq ≠ bm := fun e => by obtain ⟨es, cl, e3, _⟩ := H.out.map; have e2 := H.out.bq; unfold Box at e2; rw [e] at e2; rw [e2] at e3; cases e3
  have HNEQ := Lib.hid hneq
  have HB := Lib.hid hb
  clear hneq hb
  go_enter Tryd.func63, Tryd.ntmps63
  go_wp2_with (first
    | (at_lookup; refine wpList_lookup_own_unit _ rfl _ _ 89 rfl 3 90 keyedInt Tryd.underlying89 (zeroU _) bm _ _ rfl hmap _ _ rfl hkn ?_; rw [hhn])
    | (at_lookup; refine wpList_lookup_own_unit _ rfl _ _ 89 rfl 3 90 keyedInt Tryd.underlying89 (zeroU _) bm _ _ rfl (hmap.alloc _) _ _ rfl hk ?_; rw [hhx])
    | (at_mapUpdate; refine wpList_mapUpdate_own _ rfl _ _ _ 89 rfl 3 90 keyedInt Tryd.underlying89 (unitElem (H := Unit)) bm _ _ rfl hmap2 (by unfold maxLen; omega) _ _ _ rfl rfl hk _ [] unitElem_mk ?_; intro w3 hmap3 hgr3
       have hcq3 := pput_step H2.out HNEQ.out hgr3
       have hs3 := hgr3.size)
    | (at_builtin; refine wpList_append_IntsAt rfl _ _ 27 rfl Tryd.underlying27 base a q.length c q rfl rfl ((pput_own H2.out hgr3).alloc _) (some ⟨w3.heap.size, 0, none⟩) 1 1 [x] rfl rfl (Ints.one w3 x (I64.of_lit HX.out) _) (fun e => by cases e) (by omega) (by have := HB.out; simp at hs3 ⊢; omega) ?_; intro a' c' w4 hown4 hgr4 hlies
       have hcq4 := (pput_box H2.out HNEQ.out hgr3 hgr4).cell
       have hfq4 := box_frozen (pput_box H2.out HNEQ.out hgr3 hgr4))
    | go_in)
  · go_ret
    exact .inl ⟨rfl, (M.inn_iff _ _).1 (by assumption), (PFr.refl base Bq bm a w).alloc HB.out _⟩
  · have hno : x ∉ q := (M.inn_false _ _).1 (by simpa using (by assumption : (!M.inn q x) = true))
    obtain ⟨e1, e2, e3⟩ := pput_end H2.out (by have := HB.out; simp; omega) HX.out hno HNEQ.out hgr3 hmap3 hgr4 hown4 hlies
    go_ret
    exact .inr ⟨rfl, (M.inn_false _ _).1 (by assumption), a', c', e1, fun ad e => (e2 ad e).imp id (fun h => by simp at h; omega), (((PFr.refl base Bq bm a w).alloc HB.out _).alloc HB.out _).trans (LiesG.refl _ _) e3⟩
  · have hyes : x ∈ q := (M.inn_iff _ _).1 (by simpa using (by assumption : (!M.inn q x) = false))
    go_ret
    refine .inr ⟨rfl, (M.inn_false _ _).1 (by assumption), a, c, ?_, LiesG.refl _ _, ((PFr.refl base Bq bm a w).alloc HB.out _).alloc HB.out _⟩
    unfold M.add; rw [if_pos hyes]; exact H2.out
end Go.Proofs.YtdppmmimemmedaaDoor

/- One text of XRefLess, XRefPut, XRef14, XPut, XLits2, XOcc, XOccW, XPropMath, XPropRef, XSProp, XSPlMath: a claim has at most 60 files. -/
import Derived.Test.YtnmcajinaigcjaaGreatDoorJMem
import Derived.Maps.OwnSet
import Derived.Test.YtnmcajinaigcjaaGreatDoorJPl
namespace Go.Proofs.YtnmcajinaigcjaaGreatDoor.C
open Go.RowKit

theorem abs_any (l : Int) (w : World) (h : M.isLit l = true) :
    Calls Tryz.prog 171 #[.int .i64 l] w fun e w' => e = .returned (.int .i64 (M.vr l)) ∧ w = w' := by
  have h1 := (M.isLit_iff l).1 h
  have h2 : -20000 ≤ l := h1.2.1
  have h3 : l ≤ 20000 := h1.2.2
  clear h h1
  by_cases hn : l < 0
  · rw [M.vr_of_neg hn]
    go_enter Tryz.func171, Tryz.ntmps171
    go_wp2
    go_ret
    exact ⟨rfl, rfl⟩
  · rw [M.vr_of_pos hn]
    go_enter Tryz.func171, Tryz.ntmps171
    go_wp2
    go_ret
    exact ⟨rfl, rfl⟩
theorem less_any (a b : Int) (w : World) (ha : M.isLit a = true) (hb : M.isLit b = true) :
    Calls Tryz.prog 163 #[.int .i64 a, .int .i64 b] w fun e w' => e = .returned (.bool (M.less a b)) ∧ w = w' := by
  unfold M.less
  by_cases h1 : M.vr a < M.vr b
  · go_enter Tryz.func163, Tryz.ntmps163
    go_wp2_with (go_at_call 171; refine (abs_any _ _ (by assumption)).mono ?_; rintro e w' ⟨rfl, rfl⟩)
    go_ret
    exact ⟨ret_bool (by simp [h1]), rfl⟩
  · have hd : decide (M.vr a < M.vr b) = false := by simpa using h1
    cases h2 : (M.vr a == M.vr b)
    · go_enter Tryz.func163, Tryz.ntmps163
      go_wp2_with (go_at_call 171; refine (abs_any _ _ (by assumption)).mono ?_; rintro e w' ⟨rfl, rfl⟩)
      go_ret
      exact ⟨ret_bool (by simp [hd]), rfl⟩
    · go_enter Tryz.func163, Tryz.ntmps163
      go_wp2_with (go_at_call 171; refine (abs_any _ _ (by assumption)).mono ?_; rintro e w' ⟨rfl, rfl⟩)
      go_ret
      exact ⟨ret_bool (by simp [hd]), rfl⟩
end Go.Proofs.YtnmcajinaigcjaaGreatDoor.C
namespace Go.Proofs.YtnmcajinaigcjaaGreatDoor.C
open Go.RowKit

theorem put_done {w w3 : World} {zs : List Int} {x : Int} {k : Nat} {a3 : Option Addr} {c3 : Nat} (hsp : M.put zs x = zs.take k ++ x :: zs.drop k) (hk : k ≤ zs.length) (ho : OwnI w3 w.heap.size a3 c3 (zs.take k ++ [x] ++ zs.drop k)) (hb : Below w.heap.size w w3)
    (hzl : ∀ z ∈ zs, M.isLit z = true) (hx : M.isLit x = true) (hsm : zs.length ≤ 1000000) : NewInts w (M.put zs x) (.returned (.slice a3 (k + 1 + (zs.length - k)) c3)) w3 := by
  have e : zs.take k ++ [x] ++ zs.drop k = M.put zs x := by rw [hsp]; simp
  rw [e] at ho
  have hl : (M.put zs x).length = k + 1 + (zs.length - k) := by rw [hsp]; simp; omega
  refine ⟨a3, c3, by rw [hl], ho.ints ?_ (by rw [hl]; omega), ho.cap.1, ho.cap.2, hb⟩
  intro z hz
  rcases (M.mem_put zs x z).1 hz with rfl | hz
  · exact I64.of_lit hx
  · exact I64.of_lit (hzl z hz)
theorem put_any (a : Option Addr) (c : Nat) (zs : List Int) (x : Int) (w : World) (hz : Ints w a zs) (hc : zs.length ≤ c) (hd : a = none → c = 0) (hzl : ∀ z ∈ zs, M.isLit z = true) (hx : M.isLit x = true) (hsm : zs.length ≤ 1000000) :
    Calls Tryz.prog 143 #[.slice a zs.length c, .int .i64 x] w (NewInts w (M.put zs x)) := by
  have hlen := hz.len
  have hzw := hzl
  have HZW := Lib.hid hzw
  clear hzw
  go_enter Tryz.func143, Tryz.ntmps143
  go_wp2
  go_loop [5] (fun i => ∃ k : Nat, k ≤ zs.length ∧ i = .int .i64 k ∧ ∀ i y, i < k → zs[i]? = some y → M.less y x = true) (fun i => zs.length - (intOf i).toNat)
  case atStart => exact ⟨0, Nat.zero_le _, rfl, fun i y hi => absurd hi (by omega)⟩
  case round =>
    obtain ⟨k, hk, rfl, hf⟩ := hrel
    have HF := Lib.hid hf
    clear hf
    by_cases hlt : k < zs.length
    · obtain ⟨b, off, rfl, hbl, hcl⟩ := hz.addr (by omega)
      obtain ⟨z, hzk⟩ : ∃ z, zs[k]? = some z := ⟨zs[k], by simp [hlt]⟩
      have hcell := hcl k z hzk
      have hlz := hzl z (List.mem_of_getElem? hzk)
      have HZ := Lib.hid hzk
      clear hcl hzk
      cases hls : M.less z x
      · cases hzx : (z == x)
        · -- a new list
          have hsp : M.put zs x = zs.take k ++ x :: zs.drop k := by
            rw [M.put_split zs k x HF.out (fun y hy => by rw [HZ.out] at hy; cases hy; exact hls) (by omega), if_neg]
            rw [HZ.out]; intro e; cases e; simp at hzx
          have HSP := Lib.hid hsp
          clear hsp hzl
          have HND := Lib.hid hd
          obtain ⟨hsl, hto⟩ := slice_to 31 Tryz.underlying31 c k hz (by omega) hc hd
          obtain ⟨a', hsf, hfr, hnn⟩ := slice_from 31 Tryz.underlying31 c k hz (by omega) hc hd
          clear hd
          have HTO := Lib.hid hto
          have HFR := Lib.hid hfr
          have HNN := Lib.hid hnn
          clear hto hfr hnn
          go_wp2_with (first
            | (go_at_call 163; refine (less_any _ _ _ hlz hx).mono ?_; rintro e w' ⟨rfl, rfl⟩)
            | (at_builtin; refine wpList_append_Ints rfl (.tmp 34) (.tmp 37) 31 rfl Tryz.underlying31 w.heap.size _ _ _ [] rfl rfl (OwnI.made0 w _ (Nat.le_refl _)) _ _ _ (zs.take k) rfl (by simp; omega) (HTO.out.alloc _) HND.out (by omega) (by simp) ?_; intro a1 c1 w1 hown1 hg1 hB1; have HB1 := Lib.hid (put_below1 hB1); have HO1 := Lib.hid hown1; clear hg1 hown1 hB1)
            | (at_builtin; refine wpList_append_Ints rfl (.tmp 39) (.tmp 41) 31 rfl Tryz.underlying31 w.heap.size _ _ _ (zs.take k) rfl (by simp; omega) (OwnI.alloc HO1.out _) _ _ _ [x] rfl rfl (Ints.one w1 x (I64.of_lit hx) _) (fun h => by cases h) (by omega) (put_size1 HB1.out) ?_; intro a2 c2 w2 hown2 hg2 hB2; have HB2 := Lib.hid (put_below2 HB1.out hB2); have HO2 := Lib.hid hown2; clear hg2 hown2 hB2 HO1)
            | (at_builtin; refine wpList_append_Ints rfl (.tmp 43) (.tmp 46) 31 rfl Tryz.underlying31 w.heap.size _ _ _ (zs.take k ++ [x]) rfl (by simp; omega) HO2.out _ _ _ (zs.drop k) rfl (by simp) (HFR.out.below HB2.out) HNN.out (by omega) HB2.out.size ?_; intro a3 c3 w3 hown3 hg3 hB3; have HB3 := Lib.hid (HB2.out.trans hB3); have HO3 := Lib.hid hown3; clear hg3 hown3 hB3 HO2))
          go_ret
          exact put_done HSP.out hk HO3.out HB3.out HZW.out hx hsm
        · have hsp : M.put zs x = zs := by
            rw [M.put_split zs k x HF.out (fun y hy => by rw [HZ.out] at hy; cases hy; exact hls) (by omega), if_pos]
            rw [HZ.out]; simp at hzx; rw [hzx]
          have HSP := Lib.hid hsp
          clear hsp hzl
          go_wp2_with (go_at_call 163; refine (less_any _ _ _ hlz hx).mono ?_; rintro e w' ⟨rfl, rfl⟩)
          go_ret
          rw [HSP.out]
          exact ⟨_, _, rfl, hz, hc, hd, Below.refl _ _⟩
      · go_wp2_with (go_at_call 163; refine (less_any _ _ _ hlz hx).mono ?_; rintro e w' ⟨rfl, rfl⟩)
        go_round
        case rel =>
          refine ⟨k + 1, by omega, by go_num, fun i y hi hy => ?_⟩
          by_cases hik : i = k
          · subst hik; rw [HZ.out] at hy; cases hy; exact hls
          · exact HF.out i y (by omega) hy
        case measure => simp [intOf]; omega
    · have hend : zs[k]? = none := List.getElem?_eq_none (by omega)
      have hsp : M.put zs x = zs.take k ++ x :: zs.drop k := by
        rw [M.put_split zs k x HF.out (fun y hy => by rw [hend] at hy; cases hy) (by omega), if_neg]
        rw [hend]; simp
      have HSP := Lib.hid hsp
      clear hsp hzl hend
      have HND := Lib.hid hd
      obtain ⟨hsl, hto⟩ := slice_to 31 Tryz.underlying31 c k hz (by omega) hc hd
      obtain ⟨a', hsf, hfr, hnn⟩ := slice_from 31 Tryz.underlying31 c k hz (by omega) hc hd
      clear hd
      have HTO := Lib.hid hto
      have HFR := Lib.hid hfr
      have HNN := Lib.hid hnn
      clear hto hfr hnn
      go_wp2_with (first
        | (at_builtin; refine wpList_append_Ints rfl (.tmp 34) (.tmp 37) 31 rfl Tryz.underlying31 w.heap.size _ _ _ [] rfl rfl (OwnI.made0 w _ (Nat.le_refl _)) _ _ _ (zs.take k) rfl (by simp; omega) (HTO.out.alloc _) HND.out (by omega) (by simp) ?_; intro a1 c1 w1 hown1 hg1 hB1; have HB1 := Lib.hid (put_below1 hB1); have HO1 := Lib.hid hown1; clear hg1 hown1 hB1)
        | (at_builtin; refine wpList_append_Ints rfl (.tmp 39) (.tmp 41) 31 rfl Tryz.underlying31 w.heap.size _ _ _ (zs.take k) rfl (by simp; omega) (OwnI.alloc HO1.out _) _ _ _ [x] rfl rfl (Ints.one w1 x (I64.of_lit hx) _) (fun h => by cases h) (by omega) (put_size1 HB1.out) ?_; intro a2 c2 w2 hown2 hg2 hB2; have HB2 := Lib.hid (put_below2 HB1.out hB2); have HO2 := Lib.hid hown2; clear hg2 hown2 hB2 HO1)
        | (at_builtin; refine wpList_append_Ints rfl (.tmp 43) (.tmp 46) 31 rfl Tryz.underlying31 w.heap.size _ _ _ (zs.take k ++ [x]) rfl (by simp; omega) HO2.out _ _ _ (zs.drop k) rfl (by simp) (HFR.out.below HB2.out) HNN.out (by omega) HB2.out.size ?_; intro a3 c3 w3 hown3 hg3 hB3; have HB3 := Lib.hid (HB2.out.trans hB3); have HO3 := Lib.hid hown3; clear hg3 hown3 hB3 HO2))
      go_ret
      exact put_done HSP.out hk HO3.out HB3.out HZW.out hx hsm
end Go.Proofs.YtnmcajinaigcjaaGreatDoor.C
namespace Go.Proofs.YtnmcajinaigcjaaGreatDoor.C
open Go.RowKit

/-- the document's Norm -/
def M.rnorm (zs : List Int) : List Int := if zs.all M.isLit then M.norm zs else []
theorem M.norm_snoc {zs : List Int} {k : Nat} {z : Int} (h : zs[k]? = some z) : M.norm (zs.take (k + 1)) = M.put (M.norm (zs.take k)) z := by
  rw [List.take_add_one, h]; simp [M.norm, List.foldl_append]
def RNorm (w : World) (ys : List Int) (ok : Bool) (e : Ending) (w' : World) : Prop :=
  ∃ a' c', e = .returned (.tuple #[.slice a' ys.length c', .bool ok]) ∧ Ints w' a' ys ∧ ys.length ≤ c' ∧ (a' = none → c' = 0) ∧ Below w.heap.size w w'
theorem M.right_eq (zs : List Int) : M.right zs = (zs.all M.isLit && M.eqs (M.rnorm zs) zs) := by
  rw [Bool.eq_iff_iff, M.right_iff, Bool.and_eq_true, M.eqs_iff, List.all_eq_true]
  refine and_congr_right fun h => ?_
  rw [M.rnorm, if_pos (List.all_eq_true.2 h)]
def M.big (cs : List (List Int)) (many long : Int) : Bool := decide (many < cs.length) || cs.any fun c => decide (long < c.length)
end Go.Proofs.YtnmcajinaigcjaaGreatDoor.C
namespace Go.Proofs.YtnmcajinaigcjaaGreatDoor.C
open Go.RowKit Go.Shelf

namespace M
theorem length_le_of_mem : ∀ (q r : List Int), q.Nodup → (∀ z ∈ q, z ∈ r) → q.length ≤ r.length
  | [], _, _, _ => by simp
  | x :: t, r, hn, hm => by
    obtain ⟨h1, h2⟩ := List.nodup_cons.1 hn
    have hx := hm x (by simp)
    have := length_le_of_mem t (r.erase x) h2 fun z hz => (List.mem_erase_of_ne (show z ≠ x from fun e => h1 (e ▸ hz))).2 (hm z (by simp [hz]))
    rw [List.length_erase_of_mem hx] at this
    have := List.length_pos_of_mem hx
    simp; omega
theorem lits_length {q : List Int} (hn : q.Nodup) (hl : ∀ z ∈ q, isLit z = true) : q.length ≤ 40001 := by
  have := length_le_of_mem q ((List.range 40001).map fun n : Nat => (n : Int) - 20000) hn fun z hz => by
    have := (isLit_iff z).1 (hl z hz)
    exact List.mem_map.2 ⟨(z + 20000).toNat, by simp; omega, by omega⟩
  simpa using this
def place (l : Int) : Int := if l < 0 then -2 * l - 2 else 2 * l - 1
/-- a literal is set -/
def add (q : List Int) (x : Int) : List Int := if x ∈ q then q else q ++ [x]
theorem mem_add (q : List Int) (x y : Int) : y ∈ add q x ↔ y = x ∨ y ∈ q := by
  unfold add; split
  · constructor
    · exact .inr
    · rintro (rfl | h) <;> assumption
  · simp; exact Or.comm
theorem add_nodup {q : List Int} (h : q.Nodup) (x : Int) : (add q x).Nodup := by
  unfold add; split
  · exact h
  · rename_i hx; exact List.nodup_append.2 ⟨h, by simp, fun a ha b hb => by simp at hb; subst hb; exact fun e => hx (e ▸ ha)⟩
theorem add_lit {q : List Int} (h : ∀ z ∈ q, isLit z = true) {x : Int} (hx : isLit x = true) : ∀ z ∈ add q x, isLit z = true := by
  intro z hz
  rcases (mem_add q x z).1 hz with rfl | hz
  · exact hx
  · exact h z hz
end M

theorem keyedInt : Go.Maps.Keyed Tryz.prog 3 := Go.Maps.int_keyed Tryz.underlying3
theorem keyI (x : Int) (h : M.isLit x = true) : keyOf Tryz.prog 3 (.int .i64 x) = some (.int .i64 x) := Go.Maps.keyOf_int_mk Tryz.underlying3 (by have := (M.isLit_iff x).1 h; simp [Lit.wf, IntKind.min, IntKind.max, IntKind.signed, IntKind.bits]; omega)
def Sq (q : List Int) : DataW Unit := Go.Maps.setOf (.agg []) (q.map (Lit.int .i64))
theorem Sq_snoc (q : List Int) (x : Int) : Sq (q ++ [x]) = (Sq q).put (.int .i64 x) (.agg []) := by
  unfold Sq; rw [List.map_append]; exact Go.Maps.setOf_snoc _ _ _
theorem has_Sq (q : List Int) (x : Int) : Go.Maps.has (Sq q) (.int .i64 x) = M.inn q x := by
  unfold Sq
  rw [Go.Maps.has_setOf _ _ _ (fun y hy => by obtain ⟨z, _, rfl⟩ := List.mem_map.1 hy; trivial)]
  unfold M.inn
  induction q with
  | nil => rfl
  | cons z l ih => simp only [List.map_cons, List.any_cons, ih]; simp [Lit.sameKey]; rw [Bool.eq_iff_iff]; simp; exact ⟨fun h => h.imp Eq.symm id, fun h => h.imp Eq.symm id⟩

/-- what lies elsewhere stands -/
structure PFr (base Bq bm : Nat) (a : Option Addr) (w w' : World) : Prop where
  below : Below base w w'
  same : ∀ k, k < w.heap.size → k ≠ Bq → k ≠ bm → (∀ ad, a = some ad → ad.block ≠ k) → w'.heap[k]? = w.heap[k]?
theorem PFr.size {base Bq bm : Nat} {a : Option Addr} {w w' : World} (h : PFr base Bq bm a w w') : w.heap.size ≤ w'.heap.size := h.below.size
theorem PFr.refl (base Bq bm : Nat) (a : Option Addr) (w : World) : PFr base Bq bm a w w := ⟨Below.refl _ _, fun _ _ _ _ _ => rfl⟩
/-- the queue lies where it lay, or in a new block -/
def LiesG (n : Nat) (a a' : Option Addr) : Prop := ∀ ad', a' = some ad' → (∃ ad, a = some ad ∧ ad.block = ad'.block) ∨ n ≤ ad'.block
theorem LiesG.refl (n : Nat) (a : Option Addr) : LiesG n a a := fun ad e => .inl ⟨ad, e, rfl⟩
theorem LiesG.trans {n n' : Nat} {a b c : Option Addr} (h : LiesG n a b) (h' : LiesG n' b c) (hn : n ≤ n') : LiesG n a c := fun ad e => by
  rcases h' ad e with ⟨ad1, e1, e2⟩ | h2
  · rcases h ad1 e1 with ⟨ad0, e0, e3⟩ | h3
    · exact .inl ⟨ad0, e0, e3.trans e2⟩
    · exact .inr (by omega)
  · exact .inr (by omega)
theorem PFr.trans {base Bq bm : Nat} {a b : Option Addr} {w w1 w2 : World} (h : PFr base Bq bm a w w1) (hl : LiesG w.heap.size a b) (h2 : PFr base Bq bm b w1 w2) : PFr base Bq bm a w w2 :=
  ⟨h.below.trans h2.below, fun k hk h3 h4 h5 => (h2.same k (by have := h.size; omega) h3 h4 (fun ad e he => by
    rcases hl ad e with ⟨ad0, e0, e1⟩ | h6
    · exact h5 ad0 e0 (e1.trans he)
    · omega)).trans (h.same k hk h3 h4 h5)⟩
theorem PFr.alloc {base Bq bm : Nat} {a : Option Addr} {w w1 : World} (h : PFr base Bq bm a w w1) (hb : base ≤ w.heap.size) (o : Obj) : PFr base Bq bm a w (w1.alloc o) :=
  ⟨h.below.alloc (Nat.le_trans hb h.size) o, fun k hk h3 h4 h5 => (Below.heap_alloc _ _ k (by have := h.size; omega)).trans (h.same k hk h3 h4 h5)⟩
theorem box_frozen {w : World} {q : Nat} {v : Value} {t : TypeId} (h : Box w q v t) : w.frozen? ⟨q, 0, none⟩ = false := by unfold Box at h; simp [World.frozen?, h]
theorem heap_setCell_box {W : World} {B : Nat} {v : Value} {t : TypeId} (v' : Value) (h : W.heap[B]? = some (.cells #[v] t (0, 0))) : (W.setCell ⟨B, 0, none⟩ v').heap[B]? = some (.cells #[v'] t (0, 0)) := by
  obtain ⟨hlt, hk⟩ := Array.getElem?_eq_some_iff.1 h
  show (W.heap.modify B _)[B]? = _
  rw [Array.getElem?_eq_getElem (by rw [Array.size_modify]; exact hlt), Array.getElem_modify_self, hk]
  rfl
end Go.Proofs.YtnmcajinaigcjaaGreatDoor.C
namespace Go.Proofs.YtnmcajinaigcjaaGreatDoor.C
open Go.RowKit

/-- the greatest variable of a clause, from g on -/
def M.varsC (g : Int) (c : List Int) : Int := c.foldl (fun g l => if M.isLit l then max g (M.vr l) else g) g
theorem M.vars_take {cs : List (List Int)} {k : Nat} {c : List Int} (h : cs[k]? = some c) : M.vars (cs.take (k + 1)) = M.varsC (M.vars (cs.take k)) c := by
  unfold M.vars M.varsC
  rw [List.take_add_one, h]
  simp [List.foldl_append]
theorem M.varsC_snoc {g : Int} {c : List Int} {k : Nat} {z : Int} (h : c[k]? = some z) : M.varsC g (c.take (k + 1)) = if M.isLit z then max (M.varsC g (c.take k)) (M.vr z) else M.varsC g (c.take k) := by
  unfold M.varsC
  rw [List.take_add_one, h]
  simp [List.foldl_append]
theorem M.varsC_bd {g : Int} (h : 0 ≤ g ∧ g ≤ 20000) (c : List Int) : 0 ≤ M.varsC g c ∧ M.varsC g c ≤ 20000 := by
  unfold M.varsC
  induction c generalizing g with
  | nil => exact h
  | cons z c ih =>
    rw [List.foldl_cons]
    refine ih ?_
    split
    · rename_i hl
      have h1 := (M.isLit_iff z).1 hl
      have h2 : M.vr z ≤ 20000 := by
        by_cases hn : z < 0
        · rw [M.vr_of_neg hn]; omega
        · rw [M.vr_of_pos hn]; omega
      have h3 := M.vr_nonneg z
      omega
    · exact h
theorem M.vars_bd (cs : List (List Int)) : 0 ≤ M.vars cs ∧ M.vars cs ≤ 20000 := by
  have : ∀ (cs : List (List Int)) (g : Int), 0 ≤ g ∧ g ≤ 20000 → 0 ≤ cs.foldl M.varsC g ∧ cs.foldl M.varsC g ≤ 20000 := by
    intro cs
    induction cs with
    | nil => intro g h; exact h
    | cons c cs ih => intro g h; exact ih _ (M.varsC_bd h c)
  exact this cs 0 (by omega)
end Go.Proofs.YtnmcajinaigcjaaGreatDoor.C
namespace Go.Proofs.YtnmcajinaigcjaaGreatDoor.C
open Go.RowKit Go.Shelf

theorem Tryz.infoRow : (Tryz.prog.info? 31).map (fun i => (i.zero, i.size, i.bytes)) = some (some (.slice none 0 0), 1, 24) := by kernel_rfl

/-- what only answers: the same list, or a new one -/
def OnlyPost (w : World) (a : Option Addr) (zs : List Int) (e : Ending) (w' : World) : Prop :=
  ∃ a' c', e = .returned (.slice a' (M.only zs).length c') ∧ Ints w' a' (M.only zs) ∧ Below w.heap.size w w' ∧ ((a' = a ∧ M.only zs = zs) ∨ ∀ ad, a' = some ad → w.heap.size ≤ ad.block)
theorem only_rd (a : Option Addr) (c : Nat) (zs : List Int) (w : World) (hz : Ints w a zs) :
    Calls Tryz.prog 162 #[.slice a zs.length c] w (OnlyPost w a zs) := by
  have hlen := hz.len
  cases hr : M.right zs
  · go_enter Tryz.func162, Tryz.ntmps162
    go_wp2_with (go_at_call 170; refine (right_any _ _ _ _ hz).mono ?_; rintro e w1 ⟨rfl, hb⟩)
    have HB := Lib.hid hb
    clear hb
    go_loopw [3, 5, 11] (fun v _ i wr => ∃ (k n : Nat) (a' : Option Addr) (c' : Nat), k ≤ zs.length ∧ i = .int .i64 k ∧ v = .slice a' n c' ∧ n = ((zs.take k).filter M.isLit).length ∧ OwnI wr w.heap.size a' c' ((zs.take k).filter M.isLit) ∧ Below w.heap.size w wr) (fun _ _ i _ => zs.length - (intOf i).toNat)
    case atStart => exact ⟨0, 0, none, 0, Nat.zero_le _, rfl, rfl, rfl, OwnI.nil _ _, HB.out⟩
    case round =>
      obtain ⟨k, n, a', c', hk, rfl, rfl, hn, hown, hb⟩ := hrel
      have HN := Lib.hid hn
      have HO := Lib.hid hown
      have HB' := Lib.hid hb
      have hnk : n ≤ k := by rw [hn]; have := List.length_filter_le M.isLit (zs.take k); simp at this; omega
      clear hn hown hb
      by_cases hlt : k < zs.length
      · have hzr := hz.below HB'.out
        obtain ⟨b, off, rfl, hbl, hcl⟩ := hzr.addr (by omega)
        obtain ⟨z, hzk⟩ : ∃ z, zs[k]? = some z := ⟨zs[k], by simp [hlt]⟩
        have hcell := hcl k z hzk
        have HZ := Lib.hid hzk
        have H64 := Lib.hid (hz.wf z (List.mem_of_getElem? hzk))
        clear hcl hzk
        cases hlz : M.isLit z
        · go_wp2_with (go_at_call 160; refine (literal_any _ _).mono ?_; rintro e w' ⟨rfl, rfl⟩)
          go_roundw
          case rel => exact ⟨k + 1, n, a', c', by omega, by go_num, rfl, by rw [M.filter_drop HZ.out hlz]; exact HN.out, by rw [M.filter_drop HZ.out hlz]; exact HO.out, HB'.out⟩
          case measure => simp [intOf]; omega
        · go_wp2_with (first
            | (go_at_call 160; refine (literal_any _ _).mono ?_; rintro e w' ⟨rfl, rfl⟩)
            | (at_builtin; refine wpList_append_Ints rfl (.tmp 17) (.tmp 19) 31 rfl Tryz.underlying31 w.heap.size _ _ _ ((zs.take k).filter M.isLit) rfl HN.out.symm (OwnI.alloc HO.out _) _ _ _ [z] rfl rfl (Ints.one wr z H64.out _) (fun h => by cases h) (by omega) (put_size1 HB'.out) ?_; intro a2 c2 w2 hown2 hg2 hB2; have HB2 := Lib.hid (put_below2 HB'.out hB2); have HO2 := Lib.hid hown2; clear hg2 hown2 hB2))
          go_roundw
          case rel => exact ⟨k + 1, n + 1, a2, c2, by omega, by go_num, rfl, by rw [M.filter_keep HZ.out hlz, List.length_append, ← HN.out]; rfl, by rw [M.filter_keep HZ.out hlz]; exact HO2.out, HB2.out⟩
          case measure => simp [intOf]; omega
      · have hfull : zs.take k = zs := List.take_of_length_le (by omega)
        have hI : Ints wr a' (zs.filter M.isLit) := by
          have := HO.out; rw [hfull] at this
          refine this.ints (fun y hy => hz.wf y (List.mem_filter.1 hy).1) ?_
          have := List.length_filter_le M.isLit zs; omega
        have hnl : n = (zs.filter M.isLit).length := by rw [HN.out, hfull]
        have hsr := sorted_any a' c' (zs.filter M.isLit) wr hI (fun y hy => (List.mem_filter.1 hy).2)
        rw [← hnl] at hsr
        have HS := Lib.hid hsr
        clear hfull hI hnl hsr
        go_wp2_with (go_at_call 161; refine HS.out.mono ?_; rintro e w' ⟨a3, c3, rfl, h1, h2, h3, h4, h5⟩)
        go_ret
        exact ⟨_, _, rfl, h1, HB'.out.trans (h4.mono HB'.out.size), .inr (fun ad e => Nat.le_trans HB'.out.size (h5.new ad e))⟩
  · go_enter Tryz.func162, Tryz.ntmps162
    go_wp2_with (go_at_call 170; refine (right_any _ _ _ _ hz).mono ?_; rintro e w1 ⟨rfl, hb⟩)
    go_ret
    exact ⟨a, c, by rw [M.only_of_right hr]; rfl, by rw [M.only_of_right hr]; exact hz.below hb, hb, .inl ⟨rfl, M.only_of_right hr⟩⟩
/-- a row of clauses in block g; their blocks are in K -/
def VC (K : Nat → Prop) (w : World) (base g : Nat) (cs : List (List Int)) : Prop :=
  ∃ vals : List Value, w.ownsRow base 98 1 (.slice (some ⟨g, 0, none⟩) cs.length cs.length) cs.length vals ∧
    ∀ (i : Nat) (x : List Int), cs[i]? = some x → ∃ a' c', vals[i]? = some (Value.slice a' x.length c') ∧ Ints w a' x ∧ ∀ ad, eff a' x = some ad → K ad.block
theorem VC.blk {K : Nat → Prop} {w : World} {base g : Nat} {cs : List (List Int)} (h : VC K w base g cs) : base ≤ g ∧ g < w.heap.size ∧ ∃ cur, w.heap[g]? = some (.cells cur 98 (0, 0)) := by
  obtain ⟨vals, hr, _⟩ := h
  rcases hr.2 with ⟨e, _⟩ | ⟨g', cap, cur, e, hb, hg, _⟩
  · cases e
  · cases e; exact ⟨hb, (Array.getElem?_eq_some_iff.1 hg).1, cur, hg⟩
theorem VC.cell {K : Nat → Prop} {w : World} {base g : Nat} {cs : List (List Int)} (h : VC K w base g cs) {i : Nat} {x : List Int} (hx : cs[i]? = some x) : ∃ a' c', w.cell? ⟨g, i, none⟩ = some (.slice a' x.length c') ∧ Ints w a' x := by
  obtain ⟨vals, hr, hv⟩ := h
  obtain ⟨a1, c1, e1, r, _⟩ := hv i x hx
  have := hr.cells (g := g) rfl i _ e1
  rw [addr_add, Nat.zero_add] at this
  exact ⟨a1, c1, this, r⟩
theorem VC.frozen {K : Nat → Prop} {w : World} {base g : Nat} {cs : List (List Int)} (h : VC K w base g cs) (i : Nat) : w.frozen? ⟨g, i, none⟩ = false := by
  obtain ⟨_, _, cur, hg⟩ := h.blk
  simp [World.frozen?, hg]
/-- it stands where its blocks stand -/
theorem VC.keep {K : Nat → Prop} {w w' : World} {base g : Nat} {cs : List (List Int)} (h : VC K w base g cs) (hs : w.heap.size ≤ w'.heap.size) (hg : w'.heap[g]? = w.heap[g]?) (hk : ∀ k, K k → w'.heap[k]? = w.heap[k]?) : VC K w' base g cs := by
  obtain ⟨vals, hr, hv⟩ := h
  refine ⟨vals, ⟨hr.1, ?_⟩, fun i x hx => ?_⟩
  · rcases hr.2 with h0 | ⟨g', cap, cur, e, hb, hgg, r⟩
    · exact .inl h0
    · cases e; exact .inr ⟨g, _, cur, rfl, hb, hg.trans hgg, r⟩
  · obtain ⟨a1, c1, e1, e2, e3⟩ := hv i x hx
    exact ⟨a1, c1, e1, e2.sameE hs (fun ad e => hk _ (e3 ad e)), e3⟩
theorem VC.ne {K : Nat → Prop} {w : World} {base g : Nat} {cs : List (List Int)} (h : VC K w base g cs) {b : Option Addr} {zs : List Int} (hz : Ints w b zs) : ∀ ad, eff b zs = some ad → ad.block ≠ g := by
  intro ad e hne
  have h0 : 0 < zs.length := by
    rcases Nat.eq_zero_or_pos zs.length with h' | h'
    · rw [List.eq_nil_of_length_eq_zero h', eff_nil] at e; cases e
    · exact h'
  have e' := eff_some e
  obtain ⟨b', off, rfl, hlt, hc⟩ := hz.addr h0
  cases e'
  simp only at hne
  subst hne
  obtain ⟨z, hz0⟩ : ∃ z, zs[0]? = some z := ⟨zs[0], by simp [h0]⟩
  have h1 := hc 0 z hz0
  obtain ⟨vals, hr, hv⟩ := h
  rcases hr.2 with ⟨e, _⟩ | ⟨g', cap, cur, e, _, hg, hnc, _, hcs, htake⟩
  · cases e
  · cases e
    rw [cell_of_cells hg] at h1
    have hvl : vals.length = cs.length := by simpa using hr.1
    have hcur : cur.toList = vals := by rw [← htake, List.take_of_length_le (by simp; omega)]
    rw [← Array.getElem?_toList, hcur] at h1
    have hlt' : off + 0 < cs.length := by rw [← hvl]; exact (List.getElem?_eq_some_iff.1 h1).1
    obtain ⟨a1, c1, e1, _⟩ := hv (off + 0) cs[off + 0] (List.getElem?_eq_getElem hlt')
    rw [h1] at e1; cases e1
/-- a clause is laid in -/
theorem VC.set {K : Nat → Prop} {w : World} {base g : Nat} {cs : List (List Int)} (h : VC K w base g cs) (j : Nat) {b : Option Addr} {d : Nat} {x : List Int} (hx : Ints w b x) (hK : ∀ ad, eff b x = some ad → K ad.block) :
    VC K (w.setCell ⟨g, j, none⟩ (.slice b x.length d)) base g (cs.set j x) := by
  have H := h
  obtain ⟨vals, hr, hv⟩ := h
  have hvl : vals.length = cs.length := by simpa using hr.1
  have hs : w.heap.size ≤ (w.setCell ⟨g, j, none⟩ (.slice b x.length d)).heap.size := by simp [World.setCell]
  have hk : ∀ {b' : Option Addr} {zs : List Int}, Ints w b' zs → Ints (w.setCell ⟨g, j, none⟩ (.slice b x.length d)) b' zs := fun {b' zs} h1 =>
    h1.sameE hs (fun ad e => Below.heap_setCell _ _ _ _ (H.ne h1 ad e))
  refine ⟨vals.set j (.slice b x.length d), by rw [List.length_set]; exact (World.ownsRow.stored hr j _).1, fun i y hy => ?_⟩
  by_cases hij : i = j
  · subst hij
    have hi : i < cs.length := by simpa using (List.getElem?_eq_some_iff.1 hy).1
    rw [List.getElem?_set_self hi] at hy
    cases hy
    exact ⟨b, d, List.getElem?_set_self (by omega), hk hx, hK⟩
  · rw [List.getElem?_set_ne (fun e => hij e.symm)] at hy
    obtain ⟨a1, c1, e1, e2, e3⟩ := hv i y hy
    exact ⟨a1, c1, by rw [List.getElem?_set_ne (fun e => hij e.symm)]; exact e1, hk e2, e3⟩
theorem VC.weak {K K' : Nat → Prop} {w : World} {base g : Nat} {cs : List (List Int)} (h : VC K w base g cs) (hk : ∀ k, K k → K' k) : VC K' w base g cs := by
  obtain ⟨vals, hr, hv⟩ := h
  exact ⟨vals, hr, fun i x hx => by obtain ⟨a1, c1, e1, e2, e3⟩ := hv i x hx; exact ⟨a1, c1, e1, e2, fun ad e => hk _ (e3 ad e)⟩⟩
/-- make([]api.Clause, n) -/
theorem wpList_make_VC {K : Nat → Prop} {w : World} {ops : Array Oper} {rest : List Oper} {o : Oper} {act : Act} {Q : Exit → Act → World → Prop} (hgd : o.guard = none) (l c : Operand) (hop : o.op = Op.makeSlice 56 l c)
    (base n : Nat) (hl : act.eval l = .int .i64 n) (hc : act.eval c = .int .i64 n) (hn : n ≤ 1000000) (hbase : base ≤ w.heap.size)
    (h : ∀ w', VC K w' base w.heap.size (List.replicate n []) → Below w.heap.size w w' → wpList Tryz.prog ops Q rest (act.put o.dst (.slice (some ⟨w.heap.size, 0, none⟩) n n)) w') :
    wpList Tryz.prog ops Q (o :: rest) act w := by
  obtain ⟨i0, hi, hz0, hz1, hz2⟩ := info_parts Tryz.infoClause
  refine wpList_make_full w hgd l c 56 hop base 98 i0 (.slice none 0 0) 1 Tryz.underlying56 hi hz0 hz1 .i64 .i64 n n n hl hc rfl rfl (by rw [hz2]; omega) (by unfold maxLen; omega) hbase ?_
  intro w' h1 h2
  rw [made_clauses] at h1
  refine h w' ⟨List.replicate n (Value.slice none 0 0), by rw [List.length_replicate]; exact h1, fun i x hx => ?_⟩ ⟨h2.os, h2.tape, h2.output, h2.size, fun k hk => h2.block k hk (by simp)⟩
  rw [List.getElem?_replicate] at hx
  split at hx
  · cases hx
    exact ⟨none, 0, by rw [List.getElem?_replicate, if_pos (by assumption)]; rfl, Ints.nil _ _, fun ad e => by cases e⟩
  · cases hx
theorem OwnI.sameA {w w' : World} {base : Nat} {a : Option Addr} {c : Nat} {ys : List Int} (h : OwnI w base a c ys) (hk : ∀ ad, a = some ad → w'.heap[ad.block]? = w.heap[ad.block]?) : OwnI w' base a c ys := by
  refine ⟨h.1, ?_⟩
  rcases h.2 with h0 | ⟨g, cap, cur, e, hb, hg, r⟩
  · exact .inl h0
  · injection e with e1 e2 e3
    exact .inr ⟨g, cap, cur, by rw [e1, e3], hb, (hk _ e1).trans hg, r⟩
theorem OwnI.ltA {w : World} {base : Nat} {a : Option Addr} {c : Nat} {ys : List Int} (h : OwnI w base a c ys) : ∀ ad, a = some ad → ad.block < w.heap.size := by
  intro ad e
  rcases h.parts with ⟨e', _⟩ | ⟨g, cur, e', _, hl, _⟩
  · rw [e'] at e; cases e
  · rw [e'] at e; cases e; exact hl
/-- rows of ints in block g, each in a block of its own from n1 on -/
def IR (w : World) (base n1 g : Nat) (ls : List (List Int)) : Prop :=
  ∃ (vals : List Value) (aa : Nat → Option Addr) (cc : Nat → Nat), w.ownsRow base 31 1 (.slice (some ⟨g, 0, none⟩) ls.length ls.length) ls.length vals ∧ g < n1 ∧
    (∀ (p : Nat) (zs : List Int), ls[p]? = some zs → vals[p]? = some (Value.slice (aa p) zs.length (cc p)) ∧ OwnI w n1 (aa p) (cc p) zs) ∧
    ∀ p p' ad ad', p < ls.length → p' < ls.length → p ≠ p' → aa p = some ad → aa p' = some ad' → ad.block ≠ ad'.block
theorem wpList_make_IR {w : World} {ops : Array Oper} {rest : List Oper} {o : Oper} {act : Act} {Q : Exit → Act → World → Prop} (hgd : o.guard = none) (l c : Operand) (hop : o.op = Op.makeSlice 26 l c)
    (base n : Nat) (hl : act.eval l = .int .i64 n) (hc : act.eval c = .int .i64 n) (hn : n ≤ 1000000) (hbase : base ≤ w.heap.size)
    (h : ∀ w', IR w' base (w.heap.size + 1) w.heap.size (List.replicate n []) → Below w.heap.size w w' → wpList Tryz.prog ops Q rest (act.put o.dst (.slice (some ⟨w.heap.size, 0, none⟩) n n)) w') :
    wpList Tryz.prog ops Q (o :: rest) act w := by
  obtain ⟨i0, hi, hz0, hz1, hz2⟩ := info_parts Tryz.infoRow
  refine wpList_make_full w hgd l c 26 hop base 31 i0 (.slice none 0 0) 1 Tryz.underlying26 hi hz0 hz1 .i64 .i64 n n n hl hc rfl rfl (by rw [hz2]; omega) (by unfold maxLen; omega) hbase ?_
  intro w' h1 h2
  rw [made_clauses] at h1
  refine h w' ⟨List.replicate n (Value.slice none 0 0), fun _ => none, fun _ => 0, by rw [List.length_replicate]; exact h1, Nat.lt_succ_self _, fun i x hx => ?_, fun _ _ _ _ _ _ _ e => by cases e⟩ ⟨h2.os, h2.tape, h2.output, h2.size, fun k hk => h2.block k hk (by simp)⟩
  rw [List.getElem?_replicate] at hx
  split at hx
  · cases hx
    exact ⟨by rw [List.getElem?_replicate, if_pos (by assumption)]; rfl, OwnI.nil _ _⟩
  · cases hx
theorem IR.blk {w : World} {base n1 g : Nat} {ls : List (List Int)} (h : IR w base n1 g ls) : base ≤ g ∧ g < w.heap.size ∧ g < n1 ∧ ∃ cur, w.heap[g]? = some (.cells cur 31 (0, 0)) := by
  obtain ⟨vals, aa, cc, hr, hg1, _⟩ := h
  rcases hr.2 with ⟨e, _⟩ | ⟨g', cap, cur, e, hb, hg, _⟩
  · cases e
  · cases e; exact ⟨hb, (Array.getElem?_eq_some_iff.1 hg).1, hg1, cur, hg⟩
theorem IR.frozen {w : World} {base n1 g : Nat} {ls : List (List Int)} (h : IR w base n1 g ls) (i : Nat) : w.frozen? ⟨g, i, none⟩ = false := by
  obtain ⟨_, _, _, cur, hg⟩ := h.blk
  simp [World.frozen?, hg]
theorem IR.cell {w : World} {base n1 g : Nat} {ls : List (List Int)} (h : IR w base n1 g ls) {p : Nat} {zs : List Int} (hx : ls[p]? = some zs) : ∃ a' c', w.cell? ⟨g, p, none⟩ = some (.slice a' zs.length c') ∧ OwnI w n1 a' c' zs := by
  obtain ⟨vals, aa, cc, hr, _, hv, _⟩ := h
  obtain ⟨e1, e2⟩ := hv p zs hx
  have := hr.cells (g := g) rfl p _ e1
  rw [addr_add, Nat.zero_add] at this
  exact ⟨_, _, this, e2⟩
/-- it stands where its blocks stand -/
theorem IR.keep {w w' : World} {base n1 g : Nat} {ls : List (List Int)} (h : IR w base n1 g ls) (hg : w'.heap[g]? = w.heap[g]?) (hk : ∀ k, n1 ≤ k → k < w.heap.size → w'.heap[k]? = w.heap[k]?) : IR w' base n1 g ls := by
  obtain ⟨vals, aa, cc, hr, hg1, hv, hd⟩ := h
  refine ⟨vals, aa, cc, ⟨hr.1, ?_⟩, hg1, fun p zs hx => ?_, hd⟩
  · rcases hr.2 with h0 | ⟨g', cap, cur, e, hb, hgg, r⟩
    · exact .inl h0
    · cases e; exact .inr ⟨g, _, cur, rfl, hb, hg.trans hgg, r⟩
  · obtain ⟨e1, e2⟩ := hv p zs hx
    refine ⟨e1, ?_⟩
    exact e2.sameA fun ad e => hk _ (e2.tagN.new ad e) (e2.ltA ad e)
/-- a number is put at a row's end -/
theorem IR.push {w w2 : World} {base n1 g p c c' : Nat} {ls : List (List Int)} {zs : List Int} {a a' : Option Addr} {o : Obj} {x : Int} (h : IR w base n1 g ls) (hp : ls[p]? = some zs) (hcell : w.cell? ⟨g, p, none⟩ = some (.slice a zs.length c)) (hn1 : n1 ≤ w.heap.size)
    (hg2 : (w.alloc o).grownBy w2 (Value.slice a zs.length c).ownBlock) (hown : OwnI w2 n1 a' c' (zs ++ [x])) (hl : LiesAt (w.alloc o).heap.size a a') :
    IR (w2.setCell ⟨g, p, none⟩ (.slice a' (zs.length + 1) c')) base n1 g (ls.set p (zs ++ [x])) ∧ Below base w (w2.setCell ⟨g, p, none⟩ (.slice a' (zs.length + 1) c')) ∧ w.heap.size ≤ w2.heap.size ∧
    ∀ k, k < n1 → k ≠ g → (w2.setCell ⟨g, p, none⟩ (.slice a' (zs.length + 1) c')).heap[k]? = w.heap[k]? := by
  obtain ⟨hbg, hgl, hg1, cur, hcur⟩ := h.blk
  obtain ⟨vals, aa, cc, hr, _, hv, hd⟩ := h
  have hpl : p < ls.length := (List.getElem?_eq_some_iff.1 hp).1
  obtain ⟨e1, e2⟩ := hv p zs hp
  have hcp := hr.cells (g := g) rfl p _ e1
  rw [addr_add, Nat.zero_add, hcell] at hcp
  injection hcp with hcp
  injection hcp with ea _ ec
  subst ea ec
  have s2 := hg2.size
  simp only [World.size_alloc] at s2
  have hob : ∀ k, (Value.slice (aa p) zs.length (cc p)).ownBlock = some k → n1 ≤ k ∧ ∃ ad, aa p = some ad ∧ ad.block = k := by
    intro k hk
    refine ⟨ownBlock_ge e2 k _ hk, ?_⟩
    rcases e2.parts with ⟨e, _⟩ | ⟨g', cur', e, _⟩
    · rw [e] at hk; simp [Value.ownBlock] at hk
    · rw [e] at hk ⊢; simp [Value.ownBlock] at hk; exact ⟨_, rfl, hk⟩
  have hsame : ∀ k, k < w.heap.size → k ≠ g → (∀ ad, aa p = some ad → ad.block ≠ k) → (w2.setCell ⟨g, p, none⟩ (.slice a' (zs.length + 1) c')).heap[k]? = w.heap[k]? := fun k hk h1 h2 => by
    rw [Below.heap_setCell _ _ _ _ h1]
    refine (hg2.block k (by simp; omega) (fun e => ?_)).trans (Below.heap_alloc _ _ k hk)
    obtain ⟨_, ad, e3, e4⟩ := hob k e.symm
    exact h2 ad e3 e4
  have hrow2 : w2.ownsRow base 31 1 (.slice (some ⟨g, 0, none⟩) ls.length ls.length) ls.length vals := by
    refine (hr.alloc o).kept hg2 ?_
    right
    intro e
    obtain ⟨h3, _⟩ := hob g (by simpa [Value.ownBlock] using e.symm)
    omega
  have hlz : (zs ++ [x]).length = zs.length + 1 := by simp
  refine ⟨⟨vals.set p (.slice a' (zs.length + 1) c'), fun k => if k = p then a' else aa k, fun k => if k = p then c' else cc k, by rw [List.length_set]; exact (World.ownsRow.stored hrow2 p _).1, hg1, fun k ys hy => ?_, fun k k' ad ad' hk hk' hne ha ha' => ?_⟩, ?_, by omega, fun k hk hkg => hsame k (by omega) hkg (fun ad e he => by have := e2.tagN.new ad e; omega)⟩
  · by_cases hkp : k = p
    · subst hkp
      rw [List.getElem?_set_self hpl] at hy
      cases hy
      have hvl : vals.length = ls.length := by simpa using hr.1
      refine ⟨by rw [List.getElem?_set_self (by omega)]; simp, ?_⟩
      simp only [if_true]
      refine hown.sameA fun ad e => Below.heap_setCell _ _ _ _ ?_
      have := hown.tagN.new ad e
      show ad.block ≠ g
      omega
    · rw [List.getElem?_set_ne (fun e => hkp e.symm)] at hy
      obtain ⟨f1, f2⟩ := hv k ys hy
      refine ⟨by rw [List.getElem?_set_ne (fun e => hkp e.symm)]; simp only [if_neg hkp]; exact f1, ?_⟩
      simp only [if_neg hkp]
      have hkl : k < ls.length := (List.getElem?_eq_some_iff.1 hy).1
      refine f2.sameA fun ad e => hsame _ (f2.ltA ad e) (by have := f2.tagN.new ad e; omega) (fun ad1 e1 he => hd p k ad1 ad hpl hkl (fun h => hkp h.symm) e1 e he)
  · simp only [List.length_set] at hk hk'
    dsimp only at ha ha'
    have hlt : ∀ k0 ad0, k0 < ls.length → aa k0 = some ad0 → ad0.block < w.heap.size := fun k0 ad0 h0 h1 => (hv k0 ls[k0] (List.getElem?_eq_getElem h0)).2.ltA ad0 h1
    by_cases hkp : k = p
    · subst hkp
      simp only [if_true] at ha
      rw [if_neg (show ¬ k' = k from fun h => hne h.symm)] at ha'
      rcases hl ad ha with ⟨ad1, f1, f2⟩ | f1
      · rw [← f2]; exact hd k k' ad1 ad' hk hk' hne f1 ha'
      · have := hlt k' ad' hk' ha'; rw [f1]; simp; omega
    · rw [if_neg hkp] at ha
      by_cases hkp' : k' = p
      · subst hkp'
        simp only [if_true] at ha'
        rcases hl ad' ha' with ⟨ad1, f1, f2⟩ | f1
        · rw [← f2]; exact hd k k' ad ad1 hk hk' hne ha f1
        · have := hlt k ad hk ha; rw [f1]; simp; omega
      · rw [if_neg hkp'] at ha'
        exact hd k k' ad ad' hk hk' hne ha ha'
  · have hbel : Below base w w2 := ((Below.refl base w).alloc (by omega) o).grown hg2 (by simp; omega) (fun k e => by have := (hob k e).1; omega)
    exact hbel.setCell (p := ⟨g, p, none⟩) hbg _
end Go.Proofs.YtnmcajinaigcjaaGreatDoor.C
namespace Go.Proofs.YtnmcajinaigcjaaGreatDoor.C
open Go.RowKit Go.Shelf

namespace M
theorem varsC_mono (g : Int) (c : List Int) : g ≤ varsC g c := by
  unfold varsC
  induction c generalizing g with
  | nil => exact Int.le_refl _
  | cons x l ih =>
    rw [List.foldl_cons]
    refine Int.le_trans ?_ (ih _)
    split
    · exact Int.le_max_left _ _
    · exact Int.le_refl _
theorem varsC_mem {g : Int} {c : List Int} {x : Int} (hx : x ∈ c) (hl : isLit x = true) : vr x ≤ varsC g c := by
  unfold varsC
  induction c generalizing g with
  | nil => simp at hx
  | cons y l ih =>
    rw [List.foldl_cons]
    rcases List.mem_cons.1 hx with rfl | h
    · rw [if_pos hl]
      exact Int.le_trans (Int.le_max_right _ _) (varsC_mono _ l)
    · exact ih h
theorem vars_mem {cs : List (List Int)} {c : List Int} (hc : c ∈ cs) {x : Int} (hx : x ∈ c) (hl : isLit x = true) : vr x ≤ vars cs := by
  have h : ∀ (cs : List (List Int)) (g : Int), c ∈ cs → vr x ≤ cs.foldl varsC g := by
    intro cs
    induction cs with
    | nil => intro g h; simp at h
    | cons d l ih =>
      intro g h
      rw [List.foldl_cons]
      rcases List.mem_cons.1 h with rfl | h
      · have mono : ∀ (l : List (List Int)) (g : Int), g ≤ l.foldl varsC g := by
          intro l
          induction l with
          | nil => intro g; exact Int.le_refl _
          | cons d l ih => intro g; rw [List.foldl_cons]; exact Int.le_trans (varsC_mono g d) (ih _)
        exact Int.le_trans (varsC_mem hx hl) (mono _ _)
      · exact ih _ h
  exact h cs 0 hc
theorem place_nonneg {l : Int} (h : isLit l = true) : 0 ≤ place l := by
  have := (isLit_iff l).1 h; unfold place; split <;> omega
theorem place_lt {l : Int} (h : isLit l = true) : place l < 2 * vr l := by
  have := (isLit_iff l).1 h; unfold place vr; split <;> omega
theorem place_inj {l k : Int} (h : isLit l = true) (h' : isLit k = true) (e : place l = place k) : l = k := by
  have := (isLit_iff l).1 h; have := (isLit_iff k).1 h'; unfold place at e; split at e <;> split at e <;> omega
/-- which of the first k clauses, and k by its first j literals, have the literal of place p -/
def hasP (c : List Int) (p : Nat) : Bool := c.any fun l => place l == (p : Int)
def occ (cs : List (List Int)) (k j p : Nat) : List Int :=
  ((List.range k).filter fun i => hasP (cs[i]?.getD []) p).map (fun i : Nat => (i : Int)) ++ cond (hasP ((cs[k]?.getD []).take j) p) [(k : Int)] []
theorem occ_next {cs : List (List Int)} {k : Nat} {c : List Int} (h : cs[k]? = some c) (p : Nat) : occ cs k c.length p = occ cs (k + 1) 0 p := by
  unfold occ
  rw [List.range_succ, List.filter_append, List.map_append, h]
  simp only [Option.getD_some, List.take_length, List.take_zero]
  have e0 : hasP [] p = false := rfl
  have e1 : List.filter (fun i => hasP (cs[i]?.getD []) p) [k] = cond (hasP c p) [k] [] := by
    simp only [List.filter_cons, List.filter_nil, h, Option.getD_some]
    cases hasP c p <;> rfl
  rw [e1, e0]
  cases hasP c p <;> simp
theorem hasP_snoc {c : List Int} {j : Nat} {z : Int} (h : c[j]? = some z) (p : Nat) : hasP (c.take (j + 1)) p = (hasP (c.take j) p || (place z == (p : Int))) := by
  unfold hasP; rw [List.take_add_one, h, List.any_append]; simp
theorem occ_other {cs : List (List Int)} {k j p : Nat} {c : List Int} {z : Int} (hc : cs[k]? = some c) (h : c[j]? = some z) (hp : place z ≠ (p : Int)) : occ cs k (j + 1) p = occ cs k j p := by
  unfold occ; rw [hc]; simp only [Option.getD_some]
  rw [hasP_snoc h, show (place z == (p : Int)) = false by simpa using hp, Bool.or_false]
theorem occ_this {cs : List (List Int)} {k j p : Nat} {c : List Int} {z : Int} (hc : cs[k]? = some c) (h : c[j]? = some z) (hp : place z = (p : Int)) (hn : hasP (c.take j) p = false) : occ cs k (j + 1) p = occ cs k j p ++ [(k : Int)] := by
  unfold occ; rw [hc]; simp only [Option.getD_some]
  rw [hasP_snoc h, show (place z == (p : Int)) = true by simpa using hp, Bool.or_true, hn]; simp
theorem hasP_new {c : List Int} {j : Nat} {z : Int} (hs : Sorted c) (hl : ∀ x ∈ c, isLit x = true) (h : c[j]? = some z) {p : Nat} (hp : place z = (p : Int)) : hasP (c.take j) p = false := by
  unfold hasP
  rw [List.any_eq_false]
  intro x hx
  have hx' : x ∈ c := List.mem_of_mem_take hx
  have hz : z ∈ c := List.mem_of_getElem? h
  intro e
  have e' : place x = place z := by rw [hp]; simpa using e
  have := place_inj (hl x hx') (hl z hz) e'
  subst this
  obtain ⟨i, hi, hix⟩ := List.getElem_of_mem hx
  have hi' : i < j := by simp at hi; omega
  have hjl : j < c.length := (List.getElem?_eq_some_iff.1 h).1
  have hxj : c[j] = x := (List.getElem?_eq_some_iff.1 h).2
  have hxi : c[i] = x := by rw [← hix]; simp
  have := List.pairwise_iff_getElem.1 hs i j (by omega) hjl hi'
  rw [hxi, hxj, less_irrefl] at this
  cases this
theorem occ_length (cs : List (List Int)) (k j p : Nat) : (occ cs k j p).length ≤ k + 1 := by
  unfold occ
  have := List.length_filter_le (fun i => hasP (cs[i]?.getD []) p) (List.range k)
  simp only [List.length_append, List.length_map]
  simp at this
  cases hasP ((cs[k]?.getD []).take j) p <;> simp <;> omega
end M
/-- clauses that are read, all below block b0 -/
structure ClsB (b0 : Nat) (w : World) (a : Option Addr) (cs : List (List Int)) : Prop where
  addr : 0 < cs.length → ∃ b off, a = some ⟨b, off, none⟩ ∧ b < b0 ∧ ∀ i c, cs[i]? = some c → ∃ a' c', w.cell? ⟨b, off + i, none⟩ = some (.slice a' c.length c') ∧ Ints w a' c ∧ ∀ ad, eff a' c = some ad → ad.block < b0
  len : cs.length ≤ 1000000
  le : b0 ≤ w.heap.size
theorem ClsB.cls {b0 : Nat} {w : World} {a : Option Addr} {cs : List (List Int)} (h : ClsB b0 w a cs) : Cls w a cs :=
  ⟨fun h0 => by
    obtain ⟨b, off, e, hb, hc⟩ := h.addr h0
    exact ⟨b, off, e, Nat.lt_of_lt_of_le hb h.le, fun i c hi => by obtain ⟨a', c', h1, h2, _⟩ := hc i c hi; exact ⟨a', c', h1, h2⟩⟩, by have := h.len; omega⟩
theorem ClsB.below {b0 : Nat} {w w' : World} {a : Option Addr} {cs : List (List Int)} (h : ClsB b0 w a cs) (hb : Below b0 w w') : ClsB b0 w' a cs :=
  ⟨fun h0 => by
    obtain ⟨b, off, e, hlt, hc⟩ := h.addr h0
    refine ⟨b, off, e, hlt, fun i c hi => ?_⟩
    obtain ⟨a', c', h1, h2, h3⟩ := hc i c hi
    exact ⟨a', c', (hb.cell (p := ⟨b, off + i, none⟩) hlt).trans h1, h2.sameE hb.size (fun ad e => hb.block _ (h3 ad e)), h3⟩, h.len, Nat.le_trans h.le hb.size⟩
theorem eff_len {b : Option Addr} {zs : List Int} {ad : Addr} (h : eff b zs = some ad) : 0 < zs.length := by
  rcases Nat.eq_zero_or_pos zs.length with h' | h'
  · rw [List.eq_nil_of_length_eq_zero h', eff_nil] at h; cases h
  · exact h'
theorem Ints.effLt {w : World} {b : Option Addr} {zs : List Int} (hz : Ints w b zs) : ∀ ad, eff b zs = some ad → ad.block < w.heap.size := fun ad e => by
  obtain ⟨b', off, rfl, hlt, _⟩ := hz.addr (eff_len e)
  have := eff_some e; cases this; exact hlt
theorem Cls.toB {w : World} {a : Option Addr} {cs : List (List Int)} (h : Cls w a cs) (hl : cs.length ≤ 1000000) : ClsB w.heap.size w a cs :=
  ⟨fun h0 => by
    obtain ⟨b, off, e, hlt, hc⟩ := h.addr h0
    refine ⟨b, off, e, hlt, fun i c hi => ?_⟩
    obtain ⟨a', c', h1, h2⟩ := hc i c hi
    exact ⟨a', c', h1, h2, h2.effLt⟩, hl, Nat.le_refl _⟩
def InK (b0 n0 n1 : Nat) : Nat → Prop := fun k => k < b0 ∨ (n0 ≤ k ∧ k < n1)
theorem InK.lt {b0 n0 n1 k : Nat} (h : InK b0 n0 n1 k) (h0 : b0 ≤ n0) (h1 : n0 ≤ n1) : k < n1 := by rcases h with h | h <;> omega
/-- what occurrences answers -/
def OccPost (b0 : Nat) (w : World) (cs : List (List Int)) (e : Ending) (w' : World) : Prop :=
  ∃ (V gi : Nat) (ls : List (List Int)), M.vars cs = (V : Int) ∧ e = .returned (.tuple #[.slice (some ⟨w.heap.size, 0, none⟩) cs.length cs.length, .slice (some ⟨gi, 0, none⟩) (2 * V) (2 * V)]) ∧
    VC (InK b0 w.heap.size gi) w' w.heap.size w.heap.size (cs.map M.only) ∧ IR w' w.heap.size (gi + 1) gi ls ∧ w.heap.size < gi ∧ ls.length = 2 * V ∧ (∀ p, p < 2 * V → ls[p]? = some (M.occ (cs.map M.only) cs.length 0 p)) ∧ Below w.heap.size w w'
theorem clTo_only {cs : List (List Int)} {k : Nat} {x : List Int} (h : cs[k]? = some x) : (M.clTo (cs.map M.only) k).set k (M.only x) = M.clTo (cs.map M.only) (k + 1) := M.clTo_set (by rw [List.getElem?_map, h]; rfl)
theorem clTo_length (cs : List (List Int)) {k : Nat} (h : k ≤ cs.length) : (M.clTo cs k).length = cs.length := by simp [M.clTo]; omega
theorem clTo_at (cs : List (List Int)) {k : Nat} (h : k < cs.length) : (M.clTo cs k)[k]? = some [] := by
  unfold M.clTo
  rw [List.getElem?_append_right (by simp; omega), List.length_take, Nat.min_eq_left (by omega), Nat.sub_self, List.getElem?_replicate, if_pos (by omega)]
/-- one clause more -/
theorem occ_step {b0 : Nat} {w wr w2 : World} {cs : List (List Int)} {k : Nat} {x : List Int} {a1 a2 : Option Addr} {c2 : Nat} (hx : cs[k]? = some x) (hv : VC (InK b0 w.heap.size wr.heap.size) w2 w.heap.size w.heap.size (M.clTo (cs.map M.only) k)) (hs : w.heap.size ≤ wr.heap.size) (hs2 : wr.heap.size ≤ w2.heap.size)
    (hI : Ints w2 a2 (M.only x)) (hk : ∀ ad, eff a1 x = some ad → ad.block < b0) (ha : (a2 = a1 ∧ M.only x = x) ∨ ∀ ad, a2 = some ad → wr.heap.size ≤ ad.block) :
    VC (InK b0 w.heap.size (w2.setCell ⟨w.heap.size, k, none⟩ (.slice a2 (M.only x).length c2)).heap.size) (w2.setCell ⟨w.heap.size, k, none⟩ (.slice a2 (M.only x).length c2)) w.heap.size w.heap.size (M.clTo (cs.map M.only) (k + 1)) := by
  have e : (w2.setCell ⟨w.heap.size, k, none⟩ (.slice a2 (M.only x).length c2)).heap.size = w2.heap.size := by simp [World.setCell]
  rw [e, ← clTo_only hx]
  refine (hv.weak (K' := InK b0 w.heap.size w2.heap.size) (fun j hj => ?_)).set k hI (fun ad had => ?_)
  · rcases hj with h | h
    · exact .inl h
    · exact .inr ⟨h.1, by omega⟩
  · rcases ha with ⟨rfl, h⟩ | h
    · rw [h] at had; exact .inl (hk ad had)
    · exact .inr ⟨by have := h ad (eff_some had); omega, hI.effLt ad had⟩
theorem VC.ints {K : Nat → Prop} {w : World} {base g c : Nat} {cs : List (List Int)} (h : VC K w base g cs) {i : Nat} {x : List Int} {a : Option Addr} (hx : cs[i]? = some x) (hc : w.cell? ⟨g, i, none⟩ = some (.slice a x.length c)) : Ints w a x := by
  obtain ⟨a', c', h1, h2⟩ := h.cell hx
  rw [hc] at h1
  injection h1 with h1
  injection h1 with e1
  rw [e1]; exact h2
theorem IR.midB {w w2 : World} {base n1 g c : Nat} {ls : List (List Int)} {zs : List Int} {a : Option Addr} {o : Obj} (h : IR w base n1 g ls) (ho : OwnI w n1 a c zs) (hg2 : (w.alloc o).grownBy w2 (Value.slice a zs.length c).ownBlock) : w2.heap[g]? = w.heap[g]? := by
  obtain ⟨_, hgl, hg1, _⟩ := h.blk
  refine (hg2.block g (by simp; omega) (fun e => ?_)).trans (Below.heap_alloc _ _ g hgl)
  have := ownBlock_ge ho g _ e.symm
  omega
theorem IR.mid {w w2 : World} {base n1 g c p : Nat} {ls : List (List Int)} {zs : List Int} {a : Option Addr} {o : Obj} {v : Value} (h : IR w base n1 g ls) (hc : w.cell? ⟨g, p, none⟩ = some v) (ho : OwnI w n1 a c zs) (hg2 : (w.alloc o).grownBy w2 (Value.slice a zs.length c).ownBlock) : w2.cell? ⟨g, p, none⟩ = some v :=
  (World.cell?_of_block (a := ⟨g, p, none⟩) (h.midB ho hg2)).trans hc
theorem IR.midF {w w2 : World} {base n1 g c : Nat} {ls : List (List Int)} {zs : List Int} {a : Option Addr} {o : Obj} (h : IR w base n1 g ls) (ho : OwnI w n1 a c zs) (hg2 : (w.alloc o).grownBy w2 (Value.slice a zs.length c).ownBlock) (p : Nat) : w2.frozen? ⟨g, p, none⟩ = false :=
  (World.frozen?_of_block (a := ⟨g, p, none⟩) (h.midB ho hg2)).trans (h.frozen p)
end Go.Proofs.YtnmcajinaigcjaaGreatDoor.C
namespace Go.Proofs.YtnmcajinaigcjaaGreatDoor.C.M

/-- how many of a clause's literals are not refuted by S -/
def lf (S c : List Int) : Int := (c.length : Int) - ((c.filter fun l => decide (-l ∈ S)).length : Int)
theorem filter_two {P : Int → Bool} : ∀ {c : List Int}, c.Nodup → ∀ {x y : Int}, x ∈ c → y ∈ c → x ≠ y → P x = false → P y = false → (c.filter P).length + 2 ≤ c.length
  | [], _, _, _, hx, _, _, _, _ => by simp at hx
  | a :: l, hn, x, y, hx, hy, hne, px, py => by
    obtain ⟨hal, hl⟩ := List.nodup_cons.1 hn
    have one : ∀ {l : List Int} {z : Int}, z ∈ l → P z = false → (l.filter P).length + 1 ≤ l.length := by
      intro l z hz pz
      have h := List.length_filter_lt_length_iff_exists (p := P) (l := l)
      exact h.2 ⟨z, hz, by simp [pz]⟩
    rcases List.mem_cons.1 hx with rfl | hx'
    · have hy' : y ∈ l := by
        rcases List.mem_cons.1 hy with rfl | h
        · exact absurd rfl hne
        · exact h
      have := one hy' py
      rw [List.filter_cons, if_neg (by simp [px])]; simp; omega
    · rcases List.mem_cons.1 hy with rfl | hy'
      · have := one hx' px
        rw [List.filter_cons, if_neg (by simp [py])]; simp; omega
      · have := filter_two hl hx' hy' hne px py
        rw [List.filter_cons]
        split <;> simp <;> omega
theorem two_of_filter {P : Int → Bool} : ∀ {c : List Int}, c.Nodup → (c.filter P).length + 2 ≤ c.length → ∃ x ∈ c, ∃ y ∈ c, x ≠ y ∧ P x = false ∧ P y = false
  | [], _, h => by simp at h
  | a :: l, hn, h => by
    obtain ⟨hal, hl⟩ := List.nodup_cons.1 hn
    cases pa : P a
    · rw [List.filter_cons, if_neg (by simp [pa])] at h
      have h1 : (l.filter P).length < l.length := by simp at h; omega
      obtain ⟨y, hy, py⟩ := List.length_filter_lt_length_iff_exists.1 h1
      exact ⟨a, by simp, y, by simp [hy], fun e => hal (e ▸ hy), pa, by simpa using py⟩
    · rw [List.filter_cons, if_pos pa] at h
      obtain ⟨x, hx, y, hy, r⟩ := two_of_filter hl (by simp at h; omega)
      exact ⟨x, by simp [hx], y, by simp [hy], r⟩
theorem lf_le {S c : List Int} (hn : c.Nodup) (h : lf S c ≤ 1) {x y : Int} (hx : x ∈ c) (hy : y ∈ c) (hne : y ≠ x) (hxs : -x ∉ S) : -y ∈ S := by
  cases hd : decide (-y ∈ S)
  · exfalso
    have := filter_two (P := fun l => decide (-l ∈ S)) hn hx hy (fun e => hne e.symm) (by simpa using hxs) hd
    unfold lf at h; omega
  · simpa using hd
theorem lf_two {S c : List Int} (hn : c.Nodup) (h : 2 ≤ lf S c) : ∃ x ∈ c, ∃ y ∈ c, x ≠ y ∧ -x ∉ S ∧ -y ∉ S := by
  obtain ⟨x, hx, y, hy, hne, px, py⟩ := two_of_filter (P := fun l => decide (-l ∈ S)) hn (by unfold lf at h; omega)
  exact ⟨x, hx, y, hy, hne, by simpa using px, by simpa using py⟩
theorem lf_nil (c : List Int) : lf [] c = c.length := by
  unfold lf
  have : (c.filter fun l => decide (-l ∈ ([] : List Int))) = [] := List.filter_eq_nil_iff.2 (fun l _ => by simp)
  rw [this]; simp
theorem lf_snoc_not {S c : List Int} {y : Int} (h : -y ∉ c) : lf (S ++ [y]) c = lf S c := by
  unfold lf
  have : (c.filter fun l => decide (-l ∈ S ++ [y])) = c.filter fun l => decide (-l ∈ S) := by
    refine List.filter_congr fun l hl => ?_
    have : -l ≠ y := fun e => h (by rw [← e, Int.neg_neg]; exact hl)
    simp [this]
  rw [this]
theorem lf_snoc {S c : List Int} {y : Int} (hn : c.Nodup) (h : -y ∈ c) (hy : y ∉ S) : lf (S ++ [y]) c = lf S c - 1 := by
  unfold lf
  have key : ∀ (c : List Int), c.Nodup → -y ∈ c → (c.filter fun l => decide (-l ∈ S ++ [y])).length = (c.filter fun l => decide (-l ∈ S)).length + 1 := by
    intro c
    induction c with
    | nil => intro _ h; simp at h
    | cons a l ih =>
      intro hn h
      obtain ⟨hal, hl⟩ := List.nodup_cons.1 hn
      rcases List.mem_cons.1 h with rfl | h'
      · have e1 : (l.filter fun z => decide (-z ∈ S ++ [y])) = l.filter fun z => decide (-z ∈ S) := by
          refine List.filter_congr fun z hz => ?_
          have : -z ≠ y := fun e => hal (by rw [← e, Int.neg_neg]; exact hz)
          simp [this]
        rw [List.filter_cons, List.filter_cons, if_pos (by simp), if_neg (by simpa using hy), e1]; simp
      · have hne : a ≠ -y := fun e => hal (e ▸ h')
        have hne' : -a ≠ y := fun e => hne (by rw [← e, Int.neg_neg])
        have e2 : decide (-a ∈ S ++ [y]) = decide (-a ∈ S) := by simp [hne']
        rw [List.filter_cons, List.filter_cons, e2]
        have := ih hl h'
        split
        · rw [List.length_cons, List.length_cons, this]
        · exact this
  rw [key c hn h]; omega

/-- what is set follows, and no two are opposed -/
structure PInv (cs : List (List Int)) (fr q : List Int) : Prop where
  der : ∀ z ∈ q, Der cs fr z
  con : ∀ z ∈ q, -z ∉ q
theorem PInv.nil (cs : List (List Int)) (fr : List Int) : PInv cs fr [] := ⟨fun _ h => by simp at h, fun _ h => by simp at h⟩
theorem PInv.add {cs : List (List Int)} {fr q : List Int} (h : PInv cs fr q) {x : Int} (hd : Der cs fr x) (hn : -x ∉ q) : PInv cs fr (M.add q x) := by
  have hx0 : x ≠ -x := fun e => by have := (isLit_iff x).1 (der_isLit hd); omega
  refine ⟨fun z hz => ?_, fun z hz hz' => ?_⟩
  · rcases (mem_add q x z).1 hz with rfl | hz
    · exact hd
    · exact h.der z hz
  · rcases (mem_add q x z).1 hz with rfl | hz
    · rcases (mem_add q z (-z)).1 hz' with e | hz'
      · exact hx0 e.symm
      · exact hn hz'
    · rcases (mem_add q x (-z)).1 hz' with e | hz'
      · exact hn (by rw [← e, Int.neg_neg]; exact hz)
      · exact h.con z hz hz'
theorem PInv.conf {cs : List (List Int)} {fr q : List Int} (h : PInv cs fr q) {x : Int} (hd : Der cs fr x) (hn : -x ∈ q) : Conf cs fr := .inl ⟨x, hd, h.der _ hn⟩
theorem der_from {cs : List (List Int)} {fr : List Int} {x : Int} (hx : x ∈ fr) (hl : isLit x = true) : Der cs fr x := (der_closed cs fr).1 x hx hl
/-- the one literal left -/
theorem PInv.last {cs : List (List Int)} {fr q c : List Int} (h : PInv cs fr q) (hc : c ∈ cs) {x : Int} (hx : x ∈ only c) (ho : ∀ y ∈ only c, y ≠ x → -y ∈ q) : Der cs fr x := by
  obtain ⟨h1, h2⟩ := (mem_only c x).1 hx
  exact (der_closed cs fr).2 c hc x h1 h2 fun k hk hl hne => h.der _ (ho k ((mem_only c k).2 ⟨hk, hl⟩) hne)
theorem PInv.none {cs : List (List Int)} {fr q c : List Int} (h : PInv cs fr q) (hc : c ∈ cs) (ho : ∀ y ∈ only c, -y ∈ q) : Conf cs fr :=
  .inr ⟨c, hc, fun l hl hk => h.der _ (ho l ((mem_only c l).2 ⟨hl, hk⟩))⟩
theorem nodup_only (c : List Int) : (only c).Nodup := (sorted_only c).imp fun {x y} h e => by rw [e, less_irrefl] at h; cases h
/-- the end -/
theorem PInv.done {cs : List (List Int)} {fr q : List Int} (h : PInv cs fr q) (hf : ∀ x ∈ fr, isLit x = true → x ∈ q) (hl : ∀ c ∈ cs, lf q (only c) ≤ 1 → ∃ x ∈ only c, x ∈ q) : PropRes cs fr (norm q) true := by
  refine PropRes.of_closed (sorted_norm q) (fun x hx => h.der x ((mem_norm q x).1 hx)) (fun x hx hx' => h.con x ((mem_norm q x).1 hx) ((mem_norm q _).1 hx')) (fun x hx hk => (mem_norm q x).2 (hf x hx hk)) fun c hc => ?_
  by_cases hle : lf q (only c) ≤ 1
  · obtain ⟨x, hx, hq⟩ := hl c hc hle
    exact .inl ⟨x, ((mem_only c x).1 hx).1, (mem_norm q x).2 hq⟩
  · obtain ⟨x, hx, y, hy, hne, h1, h2⟩ := lf_two (S := q) (nodup_only c) (by omega)
    have kx := (mem_only c x).1 hx
    have ky := (mem_only c y).1 hy
    exact .inr ⟨x, kx.1, y, ky.1, hne, kx.2, ky.2, fun e => h1 ((mem_norm q _).1 e), fun e => h2 ((mem_norm q _).1 e)⟩
theorem PropRes.no {cs : List (List Int)} {fr : List Int} (h : Conf cs fr) : PropRes cs fr [] false := .inr ⟨rfl, rfl, h⟩
end Go.Proofs.YtnmcajinaigcjaaGreatDoor.C.M
namespace Go.Proofs.YtnmcajinaigcjaaGreatDoor.C
open Go.RowKit

namespace M
/-- a clause is done with -/
def Cl (S c : List Int) : Prop := (∃ x ∈ c, x ∈ S) ∨ ∃ x ∈ c, ∃ y ∈ c, x ≠ y ∧ isLit x = true ∧ isLit y = true ∧ -x ∉ S ∧ -y ∉ S
/-- the literals of a clause that are not refuted -/
def lft (S c : List Int) : List Int := norm (c.filter fun l => isLit l && !(inn S (-l)))
def dne (S c : List Int) : Bool := c.any fun l => isLit l && inn S l
theorem mem_lft (S c : List Int) (x : Int) : x ∈ lft S c ↔ x ∈ c ∧ isLit x = true ∧ -x ∉ S := by
  unfold lft; rw [mem_norm, List.mem_filter, Bool.and_eq_true, Bool.not_eq_true', inn_false]
theorem lft_sorted (S c : List Int) : Sorted (lft S c) := sorted_norm _
theorem filt_snoc {c : List Int} {t : Nat} {z : Int} (h : c[t]? = some z) (P : Int → Bool) : (c.take (t + 1)).filter P = (c.take t).filter P ++ if P z then [z] else [] := by
  rw [List.take_add_one, h, List.filter_append]
  cases hp : P z <;> simp [hp]
theorem lft_no {S c : List Int} {t : Nat} {z : Int} (h : c[t]? = some z) (hz : (isLit z && !(inn S (-z))) = false) : lft S (c.take (t + 1)) = lft S (c.take t) := by
  unfold lft; rw [filt_snoc h, hz]; simp
theorem lft_yes {S c : List Int} {t : Nat} {z : Int} (h : c[t]? = some z) (hz : (isLit z && !(inn S (-z))) = true) : lft S (c.take (t + 1)) = put (lft S (c.take t)) z := by
  unfold lft; rw [filt_snoc h, hz, if_pos rfl]; simp [norm, List.foldl_append]
theorem lft_length (S c : List Int) : (lft S c).length ≤ c.length := Nat.le_trans (norm_length _) (List.length_filter_le _ _)
theorem dne_snoc {S c : List Int} {t : Nat} {z : Int} (h : c[t]? = some z) : dne S (c.take (t + 1)) = (dne S (c.take t) || (isLit z && inn S z)) := by
  unfold dne; rw [List.take_add_one, h]; simp
theorem PInv.congr {cs : List (List Int)} {fr q q' : List Int} (h : PInv cs fr q) (hm : ∀ x, x ∈ q' ↔ x ∈ q) : PInv cs fr q' :=
  ⟨fun z hz => h.der z ((hm z).1 hz), fun z hz hz' => h.con z ((hm z).1 hz) ((hm _).1 hz')⟩
theorem PInv.put {cs : List (List Int)} {fr q : List Int} (h : PInv cs fr q) {x : Int} (hd : Der cs fr x) (hn : -x ∉ q) : PInv cs fr (put q x) :=
  (h.add hd hn).congr fun y => (mem_put q x y).trans (mem_add q x y).symm
theorem sorted_nodup {l : List Int} (h : Sorted l) : l.Nodup := h.imp fun {x y} h e => by rw [e, less_irrefl] at h; cases h
theorem put_length_new {q : List Int} (hs : Sorted q) {x : Int} (hx : x ∉ q) : q.length < (put q x).length := by
  have := length_le_of_mem (x :: q) (put q x) (List.nodup_cons.2 ⟨hx, sorted_nodup hs⟩) (fun z hz => (mem_put q x z).2 (List.mem_cons.1 hz))
  simp at this; omega
theorem put_length_ge {q : List Int} (hs : Sorted q) (x : Int) : q.length ≤ (put q x).length :=
  length_le_of_mem q (put q x) (sorted_nodup hs) (fun z hz => (mem_put q x z).2 (.inr hz))
theorem dne_cl {S c : List Int} (h : dne S c = true) : Cl S c := by
  obtain ⟨x, hx, hp⟩ := List.any_eq_true.1 h
  exact .inl ⟨x, hx, (inn_iff _ _).1 (Bool.and_eq_true_iff.1 hp).2⟩
theorem lft_none {S c : List Int} (h : lft S c = []) : ∀ y ∈ only c, -y ∈ S := fun y hy => by
  obtain ⟨h1, h2⟩ := (mem_only c y).1 hy
  by_cases hm : -y ∈ S
  · exact hm
  · have := (mem_lft S c y).2 ⟨h1, h2, hm⟩
    rw [h] at this; simp at this
theorem lft_one {S c : List Int} {x : Int} (h : lft S c = [x]) : x ∈ only c ∧ -x ∉ S ∧ ∀ y ∈ only c, y ≠ x → -y ∈ S := by
  have hx := (mem_lft S c x).1 (by rw [h]; simp)
  refine ⟨(mem_only c x).2 ⟨hx.1, hx.2.1⟩, hx.2.2, fun y hy hne => ?_⟩
  obtain ⟨h1, h2⟩ := (mem_only c y).1 hy
  by_cases hm : -y ∈ S
  · exact hm
  · have := (mem_lft S c y).2 ⟨h1, h2, hm⟩
    rw [h] at this; simp at this; exact absurd this hne
theorem lft_cl {S c : List Int} (h0 : (lft S c).length ≠ 0) (h1 : (lft S c).length ≠ 1) : Cl S c := by
  match hl : lft S c with
  | [] => rw [hl] at h0; simp at h0
  | [x] => rw [hl] at h1; simp at h1
  | x :: y :: r =>
    have hx := (mem_lft S c x).1 (by rw [hl]; simp)
    have hy := (mem_lft S c y).1 (by rw [hl]; simp)
    have hn := sorted_nodup (lft_sorted S c)
    rw [hl] at hn
    have hne : x ≠ y := fun e => by subst e; simp at hn
    exact .inr ⟨x, hx.1, y, hy.1, hne, hx.2.1, hy.2.1, hx.2.2, hy.2.2⟩
theorem dne_not {S c : List Int} {x : Int} (h : dne S c = false) (hx : x ∈ only c) : x ∉ S := fun hs => by
  obtain ⟨h1, h2⟩ := (mem_only c x).1 hx
  have : dne S c = true := List.any_eq_true.2 ⟨x, h1, by rw [h2, (inn_iff _ _).2 hs]; rfl⟩
  rw [h] at this; cases this
end M
/-- a slice in order that stands for the set -/
def SetAt (w wr : World) (v : Value) (S : List Int) : Prop := ∃ a c, v = .slice a S.length c ∧ Ints wr a S ∧ S.length ≤ c ∧ (a = none → c = 0) ∧ Below w.heap.size w wr
def lenOf : Value → Nat
  | .slice _ n _ => n
  | _ => 0
def boolOf : Value → Bool
  | .bool b => b
  | _ => false
/-- what haversackref14.Propagate answers -/
def PropPostR (w : World) (cs : List (List Int)) (fr : List Int) (e : Ending) (w' : World) : Prop :=
  ∃ (l : List Int) (ok : Bool) (a' : Option Addr) (c' : Nat), e = .returned (.tuple #[.slice a' l.length c', .bool ok]) ∧ M.PropRes cs fr l ok ∧ Ints w' a' l ∧ Below w.heap.size w w' ∧ (a' = none → c' = 0)
theorem PropPostR.no {w w' : World} {cs : List (List Int)} {fr : List Int} (h : M.Conf cs fr) (hb : Below w.heap.size w w') : PropPostR w cs fr (.returned (.tuple #[.slice none 0 0, .bool false])) w' :=
  ⟨[], false, none, 0, rfl, M.PropRes.no h, Ints.nil _ _, hb, fun _ => rfl⟩
theorem M.PInv.lits {cs : List (List Int)} {fr q : List Int} (h : M.PInv cs fr q) : ∀ z ∈ q, M.isLit z = true := fun z hz => M.der_isLit (h.der z hz)
set_option maxRecDepth 100000 in
set_option maxHeartbeats 4000000 in
theorem rprop_any (a : Option Addr) (c : Nat) (cs : List (List Int)) (b : Option Addr) (d : Nat) (fr : List Int) (w : World) (hz : Cls w a cs) (hl : cs.length ≤ 1000) (hcl : ∀ x ∈ cs, x.length ≤ 1000) (hf : Ints w b fr) (hfl : fr.length ≤ 1000) :
    Calls Tryz.prog 110 #[.slice a cs.length c, .slice b fr.length d] w (PropPostR w cs fr) := by
  have HZ := Lib.hid hz
  have HF := Lib.hid hf
  have HCL := Lib.hid hcl
  clear hz hf hcl
  go_enter Tryz.func110, Tryz.ntmps110
  go_wp2
  go_loopw [6, 19] (fun v i wr => ∃ (k : Nat) (S : List Int), k ≤ fr.length ∧ i = .int .i64 k ∧ SetAt w wr v S ∧ M.Sorted S ∧ M.PInv cs fr S ∧ (∀ x ∈ fr.take k, M.isLit x = true → x ∈ S)) (fun _ i _ => fr.length - (intOf i).toNat)
  case atStart => exact ⟨0, [], Nat.zero_le _, rfl, ⟨_, 0, rfl, Ints.nil _ _, Nat.le_refl _, (fun h => by cases h), (Below.refl _ _).alloc (Nat.le_refl _) _⟩, List.Pairwise.nil, M.PInv.nil _ _, fun x hx => by simp at hx⟩
  case round =>
    obtain ⟨k, S, hk, rfl, ⟨a1, c1, rfl, hI, hc1, hn1, hB⟩, hS, hP, hfr⟩ := hrel
    have HI := Lib.hid hI
    have HC := Lib.hid (And.intro hc1 hn1)
    have HB := Lib.hid hB
    have HS := Lib.hid hS
    have HP := Lib.hid hP
    have HFR := Lib.hid hfr
    have hSl := M.lits_length (M.sorted_nodup hS) hP.lits
    clear hI hc1 hn1 hB hS hP hfr
    by_cases hlt : k < fr.length
    · obtain ⟨bb, off, rfl, hbl, hcl⟩ := (HF.out.below HB.out).addr (by omega)
      obtain ⟨z, hzk⟩ : ∃ z, fr[k]? = some z := ⟨fr[k], by simp [hlt]⟩
      have hcell := hcl k z hzk
      have HZK := Lib.hid hzk
      clear hcl hzk
      cases hlz : M.isLit z
      · go_wp2_with (go_at_call 77; refine (is_any _ _).mono ?_; rintro e w' ⟨rfl, rfl⟩)
        go_roundw
        case rel =>
          refine ⟨k + 1, S, by omega, by go_num, ⟨a1, c1, rfl, HI.out, HC.out.1, HC.out.2, HB.out⟩, HS.out, HP.out, fun x hx hl => ?_⟩
          rw [List.take_add_one, HZK.out] at hx
          rcases List.mem_append.1 hx with h | h
          · exact HFR.out x h hl
          · simp at h; subst h; rw [hlz] at hl; cases hl
        case measure => simp [intOf]; omega
      · have hb3 := (M.isLit_iff z).1 hlz
        obtain ⟨z0, z1, z2⟩ := hb3
        have hin0 := in_any a1 c1 S (-z) wr HI.out
        have HIN := Lib.hid hin0
        have hput := put_any a1 c1 S z wr HI.out HC.out.1 HC.out.2 HP.out.lits hlz (by omega)
        have HPUT := Lib.hid hput
        clear hin0 hput
        cases hin : M.inn S (-z)
        · rw [hin] at HIN
          go_wp2_with (first
            | (go_at_call 77; refine (is_any _ _).mono ?_; rintro e w' ⟨rfl, rfl⟩)
            | (go_at_call 111; refine HIN.out.mono ?_; rintro e w' ⟨rfl, rfl⟩)
            | (go_at_call 143; refine HPUT.out.mono ?_; rintro e w2 ⟨a2, c2, rfl, i1, i2, i3, i4⟩; have HI2 := Lib.hid i1; have HC2 := Lib.hid (And.intro i2 i3); have HB2 := Lib.hid (HB.out.trans (i4.mono HB.out.size)); clear i1 i2 i3 i4))
          go_roundw
          case rel =>
            refine ⟨k + 1, M.put S z, by omega, by go_num, ⟨a2, c2, rfl, HI2.out, HC2.out.1, HC2.out.2, HB2.out⟩, M.sorted_put HS.out z, HP.out.put (M.der_from (List.mem_of_getElem? HZK.out) hlz) ((M.inn_false _ _).1 hin), fun x hx hl => (M.mem_put S z x).2 ?_⟩
            rw [List.take_add_one, HZK.out] at hx
            rcases List.mem_append.1 hx with h | h
            · exact .inr (HFR.out x h hl)
            · simp at h; exact .inl h
          case measure => simp [intOf]; omega
        · rw [hin] at HIN
          go_wp2_with (first
            | (go_at_call 77; refine (is_any _ _).mono ?_; rintro e w' ⟨rfl, rfl⟩)
            | (go_at_call 111; refine HIN.out.mono ?_; rintro e w' ⟨rfl, rfl⟩))
          go_ret2
          exact PropPostR.no (HP.out.conf (M.der_from (List.mem_of_getElem? HZK.out) hlz) ((M.inn_iff _ _).1 hin)) HB.out
    · obtain rfl : k = fr.length := by omega
      have hfr : ∀ x ∈ fr, M.isLit x = true → x ∈ S := fun x hx hl => HFR.out x (by simpa using hx) hl
      have HFR2 := Lib.hid hfr
      clear hfr HFR
      go_wp2
      go_loopw [6, 9] (fun v ch wr => ∃ (S : List Int) (b : Bool), ch = .bool b ∧ SetAt w wr v S ∧ M.Sorted S ∧ M.PInv cs fr S ∧ (∀ x ∈ fr, M.isLit x = true → x ∈ S) ∧ (b = false → ∀ c ∈ cs, M.Cl S c)) (fun v ch _ => 2 * (40002 - lenOf v) + (if boolOf ch then 1 else 0))
      case atStart => exact ⟨S, true, rfl, ⟨a1, c1, rfl, HI.out, HC.out.1, HC.out.2, HB.out⟩, HS.out, HP.out, HFR2.out, fun h => by cases h⟩
      case round =>
        clear HI HC HB HS HP HFR2 hSl
        obtain ⟨S, ch, rfl, ⟨a1, c1, rfl, hI, hc1, hn1, hB⟩, hS, hP, hfr, hcl⟩ := hrel
        have HI := Lib.hid hI
        have HC := Lib.hid (And.intro hc1 hn1)
        have HB := Lib.hid hB
        have HS := Lib.hid hS
        have HP := Lib.hid hP
        have HFR := Lib.hid hfr
        have HCC := Lib.hid hcl
        clear hI hc1 hn1 hB hS hP hfr hcl
        cases ch
        · go_wp2
          go_ret2
          exact ⟨S, true, a1, c1, rfl, M.PropRes.of_closed HS.out HP.out.der HP.out.con HFR.out (HCC.out (by trivial)), HI.out, HB.out, HC.out.2⟩
        · go_wp2
          go_loopw [6, 9, 36] (fun v ch i wr => ∃ (k : Nat) (S' : List Int) (b : Bool), k ≤ cs.length ∧ i = .int .i64 k ∧ ch = .bool b ∧ SetAt w wr v S' ∧ M.Sorted S' ∧ M.PInv cs fr S' ∧ (∀ x ∈ fr, M.isLit x = true → x ∈ S') ∧ S.length ≤ S'.length ∧ (b = true → S.length < S'.length) ∧ (b = false → ∀ c ∈ cs.take k, M.Cl S' c)) (fun _ _ i _ => cs.length - (intOf i).toNat)
          case atStart => exact ⟨0, S, false, Nat.zero_le _, rfl, rfl, ⟨a1, c1, rfl, HI.out, HC.out.1, HC.out.2, HB.out⟩, HS.out, HP.out, HFR.out, Nat.le_refl _, (fun h => by cases h), fun _ c hc => by simp at hc⟩
          case round =>
            obtain ⟨m, hm⟩ : ∃ m, m = S.length := ⟨_, rfl⟩
            clear HI HC HB HS HP HFR HCC
            obtain ⟨k, S', ch, hk, rfl, rfl, ⟨a1, c1, rfl, hI, hc1, hn1, hB⟩, hS, hP, hfr, hle, hlt', hcl⟩ := hrel
            have hSl := M.lits_length (M.sorted_nodup hS) hP.lits
            have HI := Lib.hid hI
            have HC := Lib.hid (And.intro hc1 hn1)
            have HB := Lib.hid hB
            have HS := Lib.hid hS
            have HP := Lib.hid hP
            have HFR := Lib.hid hfr
            have HLT := Lib.hid hlt'
            have HCC := Lib.hid hcl
            clear hI hc1 hn1 hB hS hP hfr hlt' hcl
            by_cases hlt : k < cs.length
            · obtain ⟨x, hxk⟩ : ∃ x, cs[k]? = some x := ⟨cs[k], by simp [hlt]⟩
              obtain ⟨bb, off, rfl, hbl, hcl⟩ := (HZ.out.below HB.out).addr (by omega)
              obtain ⟨ax, cx, hcell, hIx⟩ := hcl k x hxk
              have hxl := HCL.out x (List.mem_of_getElem? hxk)
              have HX := Lib.hid hxk
              have HIX := Lib.hid hIx
              obtain ⟨wo, hwo⟩ : ∃ wo, wo = wr := ⟨_, rfl⟩
              subst hwo
              clear hcl hxk hIx
              go_wp2
              go_loopw [12, 13, 43] (fun lv dv i wr => ∃ t : Nat, t ≤ x.length ∧ i = .int .i64 t ∧ dv = .bool (M.dne S' (x.take t)) ∧ SetAt w wr lv (M.lft S' (x.take t)) ∧ Below wo.heap.size wo wr) (fun _ _ i _ => x.length - (intOf i).toNat)
              case atStart => exact ⟨0, Nat.zero_le _, rfl, rfl, ⟨_, 0, rfl, Ints.nil _ _, Nat.le_refl _, (fun h => by cases h), HB.out.alloc HB.out.size _⟩, (Below.refl _ _).alloc (Nat.le_refl _) _⟩
              case round =>
                obtain ⟨t, ht, rfl, rfl, ⟨al, lc, rfl, hIl, hcl1, hcl2, hBl⟩, hBo⟩ := hrel
                have HIL := Lib.hid hIl
                have HCL2 := Lib.hid (And.intro hcl1 hcl2)
                have HBL := Lib.hid hBl
                have HBO := Lib.hid hBo
                have HI2 := Lib.hid (HI.out.below hBo)
                have hll := M.lft_length S' (x.take t)
                have hll2 := List.length_take_le t x
                clear hIl hcl1 hcl2 hBl hBo
                by_cases htl : t < x.length
                · obtain ⟨z, hzt⟩ : ∃ z, x[t]? = some z := ⟨x[t], by simp [htl]⟩
                  obtain ⟨b5, off5, rfl, hb5, hc5⟩ := (HIX.out.below HBO.out).addr (by omega)
                  have hcz := hc5 t z hzt
                  have HZT := Lib.hid hzt
                  clear hc5 hzt
                  cases hlz : M.isLit z
                  · go_wp2_with (go_at_call 77; refine (is_any _ _).mono ?_; rintro e w' ⟨rfl, rfl⟩)
                    go_roundw
                    case rel => exact ⟨t + 1, by omega, by go_num, by rw [M.dne_snoc HZT.out, hlz]; simp, by rw [M.lft_no HZT.out (by rw [hlz]; rfl)]; exact ⟨al, lc, rfl, HIL.out, HCL2.out.1, HCL2.out.2, HBL.out⟩, HBO.out⟩
                    case measure => simp [intOf]; omega
                  · have hb3 := (M.isLit_iff z).1 hlz
                    obtain ⟨z0, z1, z2⟩ := hb3
                    have HPUT := Lib.hid (put_any al lc (M.lft S' (x.take t)) z wr HIL.out HCL2.out.1 HCL2.out.2 (fun y hy => ((M.mem_lft _ _ y).1 hy).2.1) hlz (by omega))
                    cases hi1 : M.inn S' z <;> cases hi2 : M.inn S' (-z)
                    all_goals
                      go_wp2_with (first
                        | (go_at_call 77; refine (is_any _ _).mono ?_; rintro e w' ⟨rfl, rfl⟩)
                        | (go_at_call 111; refine (in_any _ _ _ _ _ HI2.out).mono ?_; rintro e w' ⟨rfl, rfl⟩)
                        | (go_at_call 143; refine HPUT.out.mono ?_; rintro e w2 ⟨a2, c2, rfl, i1, i2, i3, i4⟩; have HIZ := Lib.hid i1; have HCZ := Lib.hid (And.intro i2 i3); have HBZ := Lib.hid (HBL.out.trans (i4.mono HBL.out.size)); have HBY := Lib.hid (HBO.out.trans (i4.mono HBO.out.size)); clear i1 i2 i3 i4))
                      go_roundw
                      case rel =>
                        refine ⟨t + 1, by omega, by go_num, by rw [M.dne_snoc HZT.out, hlz, hi1]; simp, ?_, ?_⟩
                        · first
                            | (rw [M.lft_yes HZT.out (by rw [hlz, hi2]; rfl)]; exact ⟨a2, c2, rfl, HIZ.out, HCZ.out.1, HCZ.out.2, HBZ.out⟩)
                            | (rw [M.lft_no HZT.out (by rw [hlz, hi2]; rfl)]; exact ⟨al, lc, rfl, HIL.out, HCL2.out.1, HCL2.out.2, HBL.out⟩)
                        · first | exact HBY.out | exact HBO.out
                      case measure => simp [intOf]; omega
                · obtain rfl : t = x.length := by omega
                  rw [List.take_length] at *
                  have hxm := List.mem_of_getElem? HX.out
                  have HXM := Lib.hid hxm
                  clear hxm
                  cases hd : M.dne S' x
                  · rcases hll3 : M.lft S' x with _ | ⟨y, _ | ⟨y2, r⟩⟩
                    · rw [hll3] at HIL HCL2
                      go_wp2
                      go_ret2
                      exact PropPostR.no (HP.out.none HXM.out (M.lft_none hll3)) HBL.out
                    · have hone := M.lft_one hll3
                      have hyl : M.isLit y = true := ((M.mem_only x y).1 hone.1).2
                      have HONE := Lib.hid hone
                      have HPUT := Lib.hid (put_any a1 c1 S' y wr HI2.out HC.out.1 HC.out.2 HP.out.lits hyl (by omega))
                      have hIl := HIL.out
                      rw [hll3] at hIl
                      obtain ⟨b6, off6, rfl, hb6, hc6⟩ := hIl.addr (by simp)
                      have hc7 := hc6 0 y rfl
                      rw [Nat.add_zero] at hc7
                      clear hc6 hIl hone hyl
                      go_wp2_with (go_at_call 143; refine HPUT.out.mono ?_; rintro e w2 ⟨a2, c2, rfl, i1, i2, i3, i4⟩; have HIZ := Lib.hid i1; have HCZ := Lib.hid (And.intro i2 i3); have HBZ := Lib.hid (HBL.out.trans (i4.mono HBL.out.size)); clear i1 i2 i3 i4)
                      go_roundw
                      case rel =>
                        have hnew := M.put_length_new HS.out (M.dne_not hd HONE.out.1)
                        exact ⟨k + 1, M.put S' y, true, by omega, by go_num, rfl, ⟨a2, c2, rfl, HIZ.out, HCZ.out.1, HCZ.out.2, HBZ.out⟩, M.sorted_put HS.out y, HP.out.put (HP.out.last HXM.out HONE.out.1 HONE.out.2.2) HONE.out.2.1, fun x hx hl => (M.mem_put S' y x).2 (.inr (HFR.out x hx hl)), by omega, fun _ => by omega, fun h => by cases h⟩
                      case measure => simp [intOf]; omega
                    · have hcl2 : M.Cl S' x := M.lft_cl (by rw [hll3]; simp) (by rw [hll3]; simp)
                      have HCL3 := Lib.hid hcl2
                      have d0 : decide ((((y :: y2 :: r).length : Nat) : Int) = 0) = false := decide_eq_false (by simp; omega)
                      have d1 : decide ((((y :: y2 :: r).length : Nat) : Int) = 1) = false := decide_eq_false (by simp; omega)
                      clear hcl2
                      go_wp2
                      go_roundw
                      case rel =>
                        refine ⟨k + 1, S', ch, by omega, by go_num, rfl, ⟨a1, c1, rfl, HI2.out, HC.out.1, HC.out.2, HBL.out⟩, HS.out, HP.out, HFR.out, hle, HLT.out, fun h c hc => ?_⟩
                        rw [List.take_add_one, HX.out] at hc
                        rcases List.mem_append.1 hc with h' | h'
                        · exact HCC.out h c h'
                        · simp at h'; subst h'; exact HCL3.out
                      case measure => simp [intOf]; omega
                  · go_wp2
                    go_roundw
                    case rel =>
                      refine ⟨k + 1, S', ch, by omega, by go_num, rfl, ⟨a1, c1, rfl, HI2.out, HC.out.1, HC.out.2, HBL.out⟩, HS.out, HP.out, HFR.out, hle, HLT.out, fun h c hc => ?_⟩
                      rw [List.take_add_one, HX.out] at hc
                      rcases List.mem_append.1 hc with h' | h'
                      · exact HCC.out h c h'
                      · simp at h'; subst h'; exact M.dne_cl hd
                    case measure => simp [intOf]; omega
            · obtain rfl : k = cs.length := by omega
              go_wp2
              go_roundw
              case rel =>
                exact ⟨S', ch, rfl, ⟨a1, c1, rfl, HI.out, HC.out.1, HC.out.2, HB.out⟩, HS.out, HP.out, HFR.out, fun h c hc => HCC.out h c (by simpa using hc)⟩
              case measure =>
                cases ch
                · simp [lenOf, boolOf]; omega
                · have := HLT.out rfl
                  simp [lenOf, boolOf]; omega
end Go.Proofs.YtnmcajinaigcjaaGreatDoor.C
namespace Go.Proofs.YtnmcajinaigcjaaGreatDoor.C.M

theorem vr_le_of {k : Int} {N : Nat} (h : -(N : Int) ≤ k ∧ k ≤ (N : Int)) : vr k ≤ N := by
  unfold vr; split <;> omega
theorem vr_bd {k : Int} {N : Nat} (h : vr k ≤ N) : -(N : Int) ≤ k ∧ k ≤ (N : Int) := by
  unfold vr at h; split at h <;> omega
/-- the literals of a gate's clauses: those of its variable and of its inputs -/
theorem gateC_vr {kind : Int} {N : Nat} {l : List Int} (h3 : kind = 3 → l.length = 2) (h4 : kind ≠ 1 → kind ≠ 2 → kind ≠ 3 → l.length = 3) (hl : ∀ x ∈ l, vr x ≤ N) :
    ∀ c ∈ gateC kind ((N + 1 : Nat) : Int) l, ∀ k ∈ c, vr k ≤ ((N + 1 : Nat) : Int) := by
  have hg : vr ((N + 1 : Nat) : Int) ≤ ((N + 1 : Nat) : Int) := vr_le_of (by omega)
  have hng : vr (-((N + 1 : Nat) : Int)) ≤ ((N + 1 : Nat) : Int) := by rw [vr_neg]; exact hg
  have hx : ∀ x ∈ l, vr x ≤ ((N + 1 : Nat) : Int) := fun x h => by have := hl x h; omega
  have hnx : ∀ x ∈ l, vr (-x) ≤ ((N + 1 : Nat) : Int) := fun x h => by rw [vr_neg]; exact hx x h
  intro c hc k hk
  unfold gateC at hc
  split at hc
  · simp only [andC, List.mem_append, List.mem_map, List.mem_singleton] at hc
    rcases hc with ⟨x, hxm, rfl⟩ | rfl
    · simp at hk; rcases hk with rfl | rfl
      · exact hng
      · exact hx _ hxm
    · simp at hk; rcases hk with rfl | ⟨x, hxm, rfl⟩
      · exact hg
      · exact hnx _ hxm
  · split at hc
    · simp only [orC, List.mem_append, List.mem_map, List.mem_singleton] at hc
      rcases hc with ⟨x, hxm, rfl⟩ | rfl
      · simp at hk; rcases hk with rfl | rfl
        · exact hg
        · exact hnx _ hxm
      · simp at hk; rcases hk with rfl | hxm
        · exact hng
        · exact hx _ hxm
    · split at hc
      · rename_i _ _ e3
        match l, h3 e3, hx, hnx with
        | [a, b], _, hx, hnx =>
          have ha := hx a (by simp)
          have hb := hx b (by simp)
          have hna := hnx a (by simp)
          have hnb := hnx b (by simp)
          simp only [xorC, List.getD_cons_zero, List.getD_cons_succ, List.mem_cons, List.not_mem_nil, or_false] at hc
          rcases hc with rfl | rfl | rfl | rfl <;> (simp at hk; rcases hk with rfl | rfl | rfl <;> assumption)
      · rename_i e1 e2 e3
        match l, h4 e1 e2 e3, hx, hnx with
        | [a, b, d], _, hx, hnx =>
          have ha := hx a (by simp)
          have hb := hx b (by simp)
          have hd := hx d (by simp)
          have hna := hnx a (by simp)
          have hnb := hnx b (by simp)
          have hnd := hnx d (by simp)
          simp only [mostC, List.getD_cons_zero, List.getD_cons_succ, List.mem_cons, List.not_mem_nil, or_false] at hc
          rcases hc with rfl | rfl | rfl | rfl | rfl | rfl <;> (simp at hk; rcases hk with rfl | rfl | rfl <;> assumption)
theorem addC_old {cs : List (List Int)} {c d : List Int} (h : c ∈ cs) : c ∈ addC cs d := by
  unfold addC; split
  · exact h
  · exact List.mem_append_left _ h
theorem addCs_old {ds cs : List (List Int)} {c : List Int} (h : c ∈ cs) : c ∈ ds.foldl addC cs := by
  induction ds generalizing cs with
  | nil => exact h
  | cons d ds ih => rw [List.foldl_cons]; exact ih (addC_old h)
theorem addCs_mem {ds cs : List (List Int)} {c : List Int} (h : c ∈ ds) (hn : adj (norm c) = false) : norm c ∈ ds.foldl addC cs := by
  induction ds generalizing cs with
  | nil => simp at h
  | cons d ds ih =>
    rw [List.foldl_cons]
    rcases List.mem_cons.1 h with rfl | h
    · refine addCs_old ?_
      unfold addC; rw [if_neg (by rw [hn]; simp)]
      simp
    · exact ih h
theorem gatesC_mem {V : Nat} {i : Nat} {g : G} {c : List Int} (hn : adj (norm c) = false) : ∀ {gs : List G}, gs[i]? = some g → c ∈ gateC g.1 ((V + i + 1 : Nat) : Int) g.2 → norm c ∈ gatesC V gs := by
  intro gs
  generalize hl : gs.length = n
  induction n generalizing gs with
  | zero => intro h; rw [List.eq_nil_of_length_eq_zero hl] at h; simp at h
  | succ n ih =>
    intro h hc
    rcases List.eq_nil_or_concat gs with rfl | ⟨gs', g', rfl⟩
    · simp at hl
    · rw [List.concat_eq_append] at *
      have hl' : gs'.length = n := by simpa using hl
      rw [gatesC_snoc]
      by_cases hi : i < gs'.length
      · rw [List.getElem?_append_left hi] at h
        exact addCs_old (ih hl' h hc)
      · have hi2 : i = gs'.length := by
          have := (List.getElem?_eq_some_iff.1 h).1
          simp at this; omega
        subst hi2
        simp at h; subst h
        exact addCs_mem hc hn
theorem holds_set {k : Int} {m : List Bool} {j : Nat} {b : Bool} (h : vr k ≠ ((j + 1 : Nat) : Int)) : holds k (m.set j b) = holds k m := by
  unfold holds
  cases hl : isLit k
  · rfl
  · have hk := (isLit_iff k).1 hl
    by_cases hn : k < 0
    · rw [vr_of_neg hn] at h
      rw [if_pos hn, if_pos hn, List.getD_eq_getElem?_getD, List.getD_eq_getElem?_getD, List.getElem?_set_ne (by omega)]
    · rw [vr_of_pos hn] at h
      rw [if_neg hn, if_neg hn, List.getD_eq_getElem?_getD, List.getD_eq_getElem?_getD, List.getElem?_set_ne (by omega)]
/-- the literals that a model says of its variables -/
def lit1 (m : List Bool) (i : Nat) : Int := if m[i]?.getD false then (i : Int) + 1 else -((i : Int) + 1)
def frm (m : List Bool) : List Int := (List.range m.length).map (lit1 m)
theorem holds_lit1 {m k : List Bool} {i : Nat} (hi : i < m.length) (hm : m.length ≤ 20000) : holds (lit1 m i) (m ++ k) = true := by
  have hpos : holds ((i + 1 : Nat) : Int) (m ++ k) = m[i]?.getD false := by
    rw [holds_pos (by omega), List.getElem?_append_left hi]
  have hl : isLit ((i + 1 : Nat) : Int) = true := by rw [isLit_iff]; omega
  unfold lit1
  have e : ((i : Int) + 1) = ((i + 1 : Nat) : Int) := by omega
  rw [e]
  cases h : m[i]?.getD false
  · rw [if_neg (by simp), holds_neg _ hl, hpos, h]; rfl
  · rw [if_pos rfl, hpos, h]
theorem ext_eq (m : List Bool) (gs : List G) : ∃ k, ext m gs = m ++ k := by
  have h := ext_take m gs 0 (Nat.zero_le _)
  rw [Nat.add_zero, List.take_zero, ext_nil] at h
  have h2 := List.take_append_drop m.length (ext m gs)
  rw [h] at h2
  exact ⟨_, h2.symm⟩
section
variable {V : Nat} {gs : List G} {m : List Bool}
theorem der_holds (h : Gok V gs) (hV : V + gs.length ≤ 20000) (hm : m.length = V) {z : Int} (hz : Der (gatesC V gs) (frm m) z) : holds z (ext m gs) = true := by
  have ht := gates_hold h hV m hm
  refine hz (fun z => holds z (ext m gs) = true) ⟨fun l hl _ => ?_, fun c hc l hl hil hk => ?_⟩
  · simp only [frm, List.mem_map, List.mem_range] at hl
    obtain ⟨i, hi, rfl⟩ := hl
    obtain ⟨k, e⟩ := ext_eq m gs
    rw [e]
    exact holds_lit1 hi (by omega)
  · have h1 := List.all_eq_true.1 ht c hc
    obtain ⟨y, hy, hyh⟩ := List.any_eq_true.1 h1
    by_cases e : y = l
    · subst e; exact hyh
    · have hyl : isLit y = true := by
        unfold holds at hyh
        exact (Bool.and_eq_true _ _ ▸ hyh : _ ∧ _).1
      have h2 : holds (-y) (ext m gs) = true := hk y hy hyl e
      rw [holds_neg _ hyl, hyh] at h2
      cases h2
theorem no_conf (h : Gok V gs) (hV : V + gs.length ≤ 20000) (hm : m.length = V) : ¬ Conf (gatesC V gs) (frm m) := by
  rintro (⟨l, h1, h2⟩ | ⟨c, hc, h1⟩)
  · have a1 := der_holds h hV hm h1
    have a2 := der_holds h hV hm h2
    rw [holds_neg _ (der_isLit h1), a1] at a2
    cases a2
  · have h2 := List.all_eq_true.1 (gates_hold h hV m hm) c hc
    obtain ⟨y, hy, hyh⟩ := List.any_eq_true.1 h2
    have hyl : isLit y = true := by
      unfold holds at hyh
      exact (Bool.and_eq_true _ _ ▸ hyh : _ ∧ _).1
    have a2 := der_holds h hV hm (h1 y hy hyl)
    rw [holds_neg _ hyl, hyh] at a2
    cases a2
theorem holds_der (h : Gok V gs) (hV : V + gs.length ≤ 20000) (hm : m.length = V) : ∀ i, i ≤ gs.length → ∀ z, own (V + i) [z] = true → holds z (ext m gs) = true → Der (gatesC V gs) (frm m) z := by
  intro i
  induction i with
  | zero =>
    intro _ z hz hh
    have hz' := (own_iff _ _).1 hz z (by simp)
    obtain ⟨k, e⟩ := ext_eq m gs
    rw [e] at hh
    have hzl : isLit z = true := by rw [isLit_iff]; omega
    obtain ⟨j, hj, hjz⟩ : ∃ j : Nat, j < m.length ∧ (z = (j : Int) + 1 ∨ z = -((j : Int) + 1)) := by
      rcases Int.lt_or_gt_of_ne hz'.1 with h1 | h1
      · exact ⟨(-z - 1).toNat, by omega, .inr (by omega)⟩
      · exact ⟨(z - 1).toNat, by omega, .inl (by omega)⟩
    have h1 := holds_lit1 (k := k) hj (by omega)
    have hme : z = lit1 m j := by
      have hjl : isLit ((j : Int) + 1) = true := by rw [isLit_iff]; omega
      unfold lit1 at h1 ⊢
      cases hb : m[j]?.getD false
      · rw [hb, if_neg (by simp)] at h1
        rw [if_neg (by simp)]
        rcases hjz with rfl | rfl
        · rw [holds_neg _ hjl, hh] at h1; cases h1
        · rfl
      · rw [hb, if_pos rfl] at h1
        rw [if_pos rfl]
        rcases hjz with rfl | rfl
        · rfl
        · rw [holds_neg _ hjl, h1] at hh; cases hh
    refine (der_closed _ _).1 z ?_ hzl
    rw [hme]
    exact List.mem_map.2 ⟨j, List.mem_range.2 hj, rfl⟩
  | succ i ih =>
    intro hi z hz hh
    have hz' := (own_iff _ _).1 hz z (by simp)
    have ih' := ih (by omega)
    by_cases hsm : own (V + i) [z] = true
    · exact ih' z hsm hh
    · have hzG : z = ((V + i + 1 : Nat) : Int) ∨ z = -((V + i + 1 : Nat) : Int) := by
        have : ¬ (-((V + i : Nat) : Int) ≤ z ∧ z ≤ ((V + i : Nat) : Int)) := fun hb => hsm ((own_iff _ _).2 fun y hy => by simp at hy; subst hy; exact ⟨hz'.1, hb⟩)
        omega
      obtain ⟨g, hg⟩ : ∃ g, gs[i]? = some g := ⟨_, List.getElem?_eq_getElem (by omega)⟩
      obtain ⟨hgo, hgf⟩ := h i g hg
      have hGl : isLit ((V + i + 1 : Nat) : Int) = true := by rw [isLit_iff]; omega
      have hll := own_isLit (vars := V + i) (by omega) hgo
      have hzl : isLit z = true := by rw [isLit_iff]; omega
      have hlen := ext_length m gs
      obtain ⟨b, hb⟩ : ∃ b, (ext m gs)[V + i]? = some b := ⟨_, List.getElem?_eq_getElem (by omega)⟩
      have hGM : holds ((V + i + 1 : Nat) : Int) (ext m gs) = b := by rw [holds_pos (by omega), hb]; rfl
      have hsay : b = says g.1 g.2 (ext m gs) := by
        have := (gatesC_true h hV (ext m gs)).1 (gates_hold h hV m hm) i g hg
        rw [hGM] at this; exact this
      have hG2 : holds ((V + i + 1 : Nat) : Int) ((ext m gs).set (V + i) (!b)) = !b := by
        rw [holds_pos (by omega), List.getElem?_set_self (by omega)]; rfl
      have hvrl : ∀ x ∈ g.2, vr x ≤ ((V + i : Nat) : Int) := own_vr hgo
      have hs2 : says g.1 g.2 ((ext m gs).set (V + i) (!b)) = says g.1 g.2 (ext m gs) := by
        have hcnt : count g.2 ((ext m gs).set (V + i) (!b)) = count g.2 (ext m gs) := by
          unfold count
          exact List.countP_congr fun x hx => by rw [holds_set (by have := hvrl x hx; omega)]
        unfold says; rw [hcnt]
      have hfalse : allTrue (gateC g.1 ((V + i + 1 : Nat) : Int) g.2) ((ext m gs).set (V + i) (!b)) = false := by
        rw [gateC_true hGl hll hgf.1 hgf.2, hG2, hs2, ← hsay]
        cases b <;> rfl
      obtain ⟨c, hc, hcf⟩ : ∃ c ∈ gateC g.1 ((V + i + 1 : Nat) : Int) g.2, tru c ((ext m gs).set (V + i) (!b)) = false := by
        unfold allTrue at hfalse
        rw [List.all_eq_false] at hfalse
        obtain ⟨c, hc, h1⟩ := hfalse
        exact ⟨c, hc, by simpa using h1⟩
      have hcl : ∀ k ∈ c, holds k ((ext m gs).set (V + i) (!b)) = false := fun k hk => by
        unfold tru at hcf
        rw [List.any_eq_false] at hcf
        simpa using hcf k hk
      have hclit := gateC_lits hGl hll hgf.1 hgf.2 c hc
      have hnadj : adj (norm c) = false := by
        cases ha : adj (norm c)
        · rfl
        · rw [tru_adj hclit ha] at hcf; cases hcf
      have hcm : norm c ∈ gatesC V gs := gatesC_mem hnadj hg hc
      have hcvr := gateC_vr hgf.1 hgf.2 hvrl c hc
      -- a literal of another variable is false, and set so
      have hoth : ∀ k ∈ c, vr k ≠ ((V + i + 1 : Nat) : Int) → Der (gatesC V gs) (frm m) (-k) := fun k hk hne => by
        have h1 := hcl k hk
        rw [holds_set hne] at h1
        have hkl := hclit k hk
        have h2 := hcvr k hk
        have h4 := (isLit_iff k).1 hkl
        have h3 := vr_bd (N := V + i) (k := k) (by omega)
        exact ih' (-k) ((own_iff _ _).2 fun y hy => by simp at hy; subst hy; omega) (by rw [holds_neg _ hkl, h1]; rfl)
      -- a literal of this gate's variable is z
      have hthis : ∀ k ∈ c, vr k = ((V + i + 1 : Nat) : Int) → k = z := fun k hk he => by
        have h1 := hcl k hk
        have hk2 : k = ((V + i + 1 : Nat) : Int) ∨ k = -((V + i + 1 : Nat) : Int) := by
          unfold vr at he; split at he <;> omega
        rcases hk2 with rfl | rfl
        · rw [hG2] at h1
          have hb2 : b = true := by cases b; cases h1; rfl
          rcases hzG with rfl | rfl
          · rfl
          · rw [holds_neg _ hGl, hGM, hb2] at hh; cases hh
        · rw [holds_neg _ hGl, hG2] at h1
          have hb2 : b = false := by cases b; rfl; cases h1
          rcases hzG with rfl | rfl
          · rw [hGM, hb2] at hh; cases hh
          · rfl
      have hzc : z ∈ c := by
        refine Classical.byContradiction fun hno => ?_
        have ht := List.all_eq_true.1 (gates_hold h hV m hm) _ hcm
        rw [tru_norm] at ht
        obtain ⟨y, hy, hyh⟩ := List.any_eq_true.1 ht
        by_cases he : vr y = ((V + i + 1 : Nat) : Int)
        · exact hno (hthis y hy he ▸ hy)
        · have h1 := hcl y hy
          rw [holds_set he, hyh] at h1; cases h1
      refine (der_closed _ _).2 (norm c) hcm z ((mem_norm c z).2 hzc) hzl fun k hk _ hne => ?_
      have hkc := (mem_norm c k).1 hk
      exact hoth k hkc fun he => hne (hthis k hkc he)
/-- what propagation from all inputs answers -/
theorem prop_gates (h : Gok V gs) (hV : V + gs.length ≤ 20000) (hm : m.length = V) {l : List Int} {ok : Bool} (hp : PropRes (gatesC V gs) (frm m) l ok) :
    ok = true ∧ ∀ z, own (V + gs.length) [z] = true → (z ∈ l ↔ holds z (ext m gs) = true) := by
  rcases hp with ⟨h1, _, h3, _⟩ | ⟨_, _, h3⟩
  · exact ⟨h1, fun z hz => ⟨fun hl => der_holds h hV hm ((h3 z).1 hl), fun hh => (h3 z).2 (holds_der h hV hm gs.length (Nat.le_refl _) z hz hh)⟩⟩
  · exact absurd h3 (no_conf h hV hm)
end
end Go.Proofs.YtnmcajinaigcjaaGreatDoor.C.M
namespace Go.Proofs.YtnmcajinaigcjaaGreatDoor.C.M

def sg1 (ss : List Bool) (i : Nat) : Int := if ss[i]?.getD false then -((i : Int) + 1) else (i : Int) + 1
def plT (ss : List Bool) : List Wt := (List.range ss.length).map fun i => (sg1 ss i, 1)
def plM (ss m : List Bool) : List Bool := (List.range ss.length).map fun i => m[i]?.getD false
theorem plT_length (ss : List Bool) : (plT ss).length = ss.length := by simp [plT]
theorem plM_length (ss m : List Bool) : (plM ss m).length = ss.length := by simp [plM]
theorem plT_get {ss : List Bool} {k : Nat} (h : k < ss.length) : (plT ss)[k]? = some (sg1 ss k, 1) := by simp [plT, h]
theorem plM_get {ss m : List Bool} {k : Nat} (h : k < ss.length) : (plM ss m)[k]? = some (m[k]?.getD false) := by simp [plM, h]
theorem plT_snoc {ss : List Bool} {k : Nat} (h : k < ss.length) : (plT ss).take (k + 1) = (plT ss).take k ++ [(sg1 ss k, 1)] := by
  rw [List.take_add_one, plT_get h]; rfl
theorem frm_snoc {ss m : List Bool} {k : Nat} (h : k < ss.length) : (frm (plM ss m)).take (k + 1) = (frm (plM ss m)).take k ++ [lit1 (plM ss m) k] := by
  have : (frm (plM ss m))[k]? = some (lit1 (plM ss m) k) := by simp [frm, plM_length, h]
  rw [List.take_add_one, this]; rfl
theorem frm_length (ss m : List Bool) : (frm (plM ss m)).length = ss.length := by simp [frm, plM_length]
theorem lit1_pl {ss m : List Bool} {k : Nat} (h : k < ss.length) : lit1 (plM ss m) k = if m[k]?.getD false then (k : Int) + 1 else -((k : Int) + 1) := by
  unfold lit1; rw [plM_get h]; rfl
theorem holds_sg1 {ss m : List Bool} {k : Nat} {s : Bool} (h : k < ss.length) (hl : ss.length ≤ 30) (hs : ss[k]? = some s) : holds (sg1 ss k) (plM ss m) = (m[k]?.getD false ^^ s) := by
  have hp : holds ((k + 1 : Nat) : Int) (plM ss m) = m[k]?.getD false := by rw [holds_pos (by omega), plM_get h]; rfl
  have hil : isLit ((k + 1 : Nat) : Int) = true := by rw [isLit_iff]; omega
  have e : ((k : Int) + 1) = ((k + 1 : Nat) : Int) := by omega
  unfold sg1
  rw [hs, e]
  cases s
  · simp only [Option.getD_some, Bool.false_eq_true, if_false]; rw [hp]; simp
  · simp only [Option.getD_some, if_true]; rw [holds_neg _ hil, hp]; simp
theorem plT_val {ss m : List Bool} {k : Nat} {s : Bool} (h : k < ss.length) (hl : ss.length ≤ 30) (hs : ss[k]? = some s) : wVal ((plT ss).take (k + 1)) (plM ss m) = wVal ((plT ss).take k) (plM ss m) + (m[k]?.getD false ^^ s).toNat := by
  rw [wVal_snoc _ (plT_get h)]
  simp only
  rw [holds_sg1 h hl hs]
  cases (m[k]?.getD false ^^ s) <;> rfl
theorem plT_ok (ss : List Bool) : (plT ss).all wOk = true := by
  rw [List.all_eq_true]
  intro t ht
  simp only [plT, List.mem_map] at ht
  obtain ⟨i, _, rfl⟩ := ht
  rfl
theorem sg1_own {ss : List Bool} {i : Nat} (h : i < ss.length) : sg1 ss i ≠ 0 ∧ -(ss.length : Int) ≤ sg1 ss i ∧ sg1 ss i ≤ (ss.length : Int) := by
  unfold sg1; split <;> omega
theorem plT_own (ss : List Bool) : own ss.length ((plT ss).map (·.1)) = true := by
  rw [own_iff]
  intro x hx
  simp only [plT, List.map_map, List.mem_map, List.mem_range] at hx
  obtain ⟨i, hi, rfl⟩ := hx
  exact sg1_own hi
theorem plT_sum (ss : List Bool) : wSum (plT ss) = ss.length := by
  have : ∀ l : List Nat, wSum (l.map fun i => (sg1 ss i, (1 : Int))) = l.length := by
    intro l
    induction l with
    | nil => rfl
    | cons x l ih => simp only [wSum, List.map_cons, List.sum_cons, List.length_cons] at ih ⊢; rw [ih]; show 1 + l.length = _; omega
  unfold plT; rw [this]; simp
theorem dig1 : dig 1 = [true] := by
  rw [dig_pos (by decide)]
  have e : 1 / 2 = 0 := by decide
  rw [e, dig_zero]; rfl
theorem plT_len (ss : List Bool) : wLen (plT ss) = ss.length := by
  have : ∀ l : List Nat, wLen (l.map fun i => (sg1 ss i, (1 : Int))) = l.length := by
    intro l
    induction l with
    | nil => rfl
    | cons x l ih =>
      simp only [wLen, List.map_cons, List.sum_cons, List.length_cons] at ih ⊢
      rw [ih]
      have e : ones (dig (1 : Int).toNat) = 1 := by
        have e1 : (1 : Int).toNat = 1 := rfl
        rw [e1, dig1]; rfl
      rw [e]; omega
  unfold plT; rw [this]; simp
theorem lit1_bd (ss m : List Bool) {k : Nat} (h : k < ss.length) (hl : ss.length ≤ 30) : -100 ≤ lit1 (plM ss m) k ∧ lit1 (plM ss m) k ≤ 100 := by
  rw [lit1_pl h]; split <;> omega
theorem frm_bd (ss m : List Bool) (hl : ss.length ≤ 30) : ∀ z ∈ frm (plM ss m), -100 ≤ z ∧ z ≤ 100 := by
  intro z hz
  simp only [frm, List.mem_map, List.mem_range, plM_length] at hz
  obtain ⟨i, hi, rfl⟩ := hz
  exact lit1_bd ss m hi hl
theorem addCs_from {ds cs : List (List Int)} {c : List Int} (h : c ∈ ds.foldl addC cs) : c ∈ cs ∨ ∃ d ∈ ds, c = norm d := by
  induction ds generalizing cs with
  | nil => exact .inl h
  | cons d ds ih =>
    rw [List.foldl_cons] at h
    rcases ih h with h1 | ⟨e, he, h1⟩
    · unfold addC at h1
      split at h1
      · exact .inl h1
      · rcases List.mem_append.1 h1 with h2 | h2
        · exact .inl h2
        · simp at h2; exact .inr ⟨d, by simp, h2⟩
    · exact .inr ⟨e, by simp [he], h1⟩
theorem gateC_clen (k g : Int) (l : List Int) : ∀ c ∈ gateC k g l, c.length ≤ l.length + 3 := by
  intro c hc
  unfold gateC at hc
  split at hc
  · simp only [andC, List.mem_append, List.mem_map, List.mem_singleton] at hc
    rcases hc with ⟨x, _, rfl⟩ | rfl <;> simp
  · split at hc
    · simp only [orC, List.mem_append, List.mem_map, List.mem_singleton] at hc
      rcases hc with ⟨x, _, rfl⟩ | rfl <;> simp
    · split at hc
      · simp only [xorC, List.mem_cons, List.not_mem_nil, or_false] at hc
        rcases hc with rfl | rfl | rfl | rfl <;> simp
      · simp only [mostC, List.mem_cons, List.not_mem_nil, or_false] at hc
        rcases hc with rfl | rfl | rfl | rfl | rfl | rfl <;> simp
theorem gatesC_clause {V : Nat} {gs : List G} (h : ∀ g ∈ gs, g.2.length ≤ 3) : ∀ c ∈ gatesC V gs, c.length ≤ 6 := by
  generalize hl : gs.length = n
  induction n generalizing gs with
  | zero => intro c hc; rw [List.eq_nil_of_length_eq_zero hl] at hc; simp [gatesC] at hc
  | succ n ih =>
    intro c hc
    rcases List.eq_nil_or_concat gs with rfl | ⟨gs', g', rfl⟩
    · simp at hl
    · rw [List.concat_eq_append] at *
      rw [gatesC_snoc] at hc
      rcases addCs_from hc with h1 | ⟨d, hd, rfl⟩
      · exact ih (fun g hg => h g (List.mem_append_left _ hg)) (by simpa using hl) c h1
      · have h1 := gateC_clen _ _ _ d hd
        have h2 := h g' (by simp)
        have h3 := norm_length d
        omega
end Go.Proofs.YtnmcajinaigcjaaGreatDoor.C.M

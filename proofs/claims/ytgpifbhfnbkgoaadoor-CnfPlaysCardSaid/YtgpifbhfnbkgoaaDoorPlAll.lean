/- One text of XRefT, XRf, XRPut, XROne, XRGate, XAllocs, XRLit, XPlSt, XPlBoth, XPlClone, XPlays: a claim has at most 60 files. -/
import Derived.Test.YtgpifbhfnbkgoaaDoorRef14
import Derived.Test.YtgpifbhfnbkgoaaDoorClauses
import Derived.Test.YtgpifbhfnbkgoaaDoorLRows
import Derived.Deep.RegionLaw
import Derived.Deep.RegionHeld3
import Derived.Test.YtgpifbhfnbkgoaaDoorGatesMath
import Derived.Below
import Derived.BigRegion
import Derived.Test.YtgpifbhfnbkgoaaDoorGLim
import Derived.Test.YtgpifbhfnbkgoaaDoorKept
import Derived.Test.YtgpifbhfnbkgoaaDoorNum
import Derived.Test.YtgpifbhfnbkgoaaDoorGatesLaw
import Derived.Deep.DeepCutAuto
import Derived.Deep.CutBlock
namespace Go.Proofs.YtgpifbhfnbkgoaaDoor
open Go.RowKit

/-- a list is handed back that lies among ints, from block number n on -/
def NewIntsN (n : Nat) (w : World) (ys : List Int) (e : Ending) (w' : World) : Prop :=
  ∃ a' c', e = .returned (.slice a' ys.length c') ∧ Ints w' a' ys ∧ (ys.length ≤ c') ∧ (a' = none → c' = 0) ∧ Below w.heap.size w w' ∧ TagN n w' a'
theorem put_doneT {n : Nat} {w w3 : World} {zs : List Int} {x : Int} {k : Nat} {a3 : Option Addr} {c3 : Nat} (hn : n ≤ w.heap.size) (hsp : M.put zs x = zs.take k ++ x :: zs.drop k) (hk : k ≤ zs.length) (ho : OwnI w3 w.heap.size a3 c3 (zs.take k ++ [x] ++ zs.drop k)) (hb : Below w.heap.size w w3)
    (hzl : ∀ z ∈ zs, M.isLit z = true) (hx : M.isLit x = true) (hsm : zs.length ≤ 1000000) : NewIntsN n w (M.put zs x) (.returned (.slice a3 (k + 1 + (zs.length - k)) c3)) w3 := by
  have ht := ho.tagN
  obtain ⟨a', c', e, h1, h2, h3, h4⟩ := put_done hsp hk ho hb hzl hx hsm
  have e' := e
  injection e' with e'
  injection e' with e1 e2 e3
  subst e1
  exact ⟨a3, c', e, h1, h2, h3, h4, ⟨fun ad e => Nat.le_trans hn (ht.new ad e), ht.tag⟩⟩
theorem TagN.fresh (w : World) (cur : Array Value) : TagN w.heap.size (w.alloc (.cells cur 3)) (some ⟨w.heap.size, 0, Option.none⟩) :=
  ⟨fun ad e => by cases e; exact Nat.le_refl _, fun ad e => by cases e; exact ⟨cur, (0, 0), by show (w.heap.push _)[w.heap.size]? = _; simp⟩⟩
def RNormT (w : World) (ys : List Int) (ok : Bool) (e : Ending) (w' : World) : Prop :=
  ∃ a' c', e = .returned (.tuple #[.slice a' ys.length c', .bool ok]) ∧ Ints w' a' ys ∧ ys.length ≤ c' ∧ (a' = none → c' = 0) ∧ Below w.heap.size w w' ∧ TagN w.heap.size w' a'
theorem putT_any (n : Nat) (a : Option Addr) (c : Nat) (zs : List Int) (x : Int) (w : World) (hz : Ints w a zs) (hc : zs.length ≤ c) (hd : a = none → c = 0) (hzl : ∀ z ∈ zs, M.isLit z = true) (hx : M.isLit x = true) (hsm : zs.length ≤ 1000000) (ht : TagN n w a) (hn : n ≤ w.heap.size) :
    Calls Tryd.prog 92 #[.slice a zs.length c, .int .i64 x] w (NewIntsN n w (M.put zs x)) := by
  have hlen := hz.len
  have hzw := hzl
  have HZW := Lib.hid hzw
  clear hzw
  have HT := Lib.hid ht
  clear ht
  go_enter Tryd.func92, Tryd.ntmps92
  go_wp2
  go_loop [5] (fun i => ∃ k : Nat, k ≤ zs.length ∧ i = .int .i64 k ∧ ∀ i y, i < k → zs[i]? = some y → M.less y x = true) (fun i => zs.length - (intOf i).toNat)
  case atStart => exact ⟨0, Nat.zero_le _, rfl, fun i y hi => absurd hi (by omega)⟩
  case round =>
    obtain ⟨k, hk, rfl, hf⟩ := hrel
    have HF := Lib.hid hf
    clear hf
    by_cases hlt : k < zs.length
    · obtain ⟨b, off, rfl, hbl, hcl⟩ := hz.addr (by omega)
      obtain ⟨z, hzk⟩ : ∃ z, zs[k]? = some z := ⟨zs[k], by simp [hlt]⟩
      have hcell := hcl k z hzk
      have hlz := hzl z (List.mem_of_getElem? hzk)
      have HZ := Lib.hid hzk
      clear hcl hzk
      cases hls : M.less z x
      · cases hzx : (z == x)
        · -- a new list
          have hsp : M.put zs x = zs.take k ++ x :: zs.drop k := by
            rw [M.put_split zs k x HF.out (fun y hy => by rw [HZ.out] at hy; cases hy; exact hls) (by omega), if_neg]
            rw [HZ.out]; intro e; cases e; simp at hzx
          have HSP := Lib.hid hsp
          clear hsp hzl
          have HND := Lib.hid hd
          obtain ⟨hsl, hto⟩ := slice_to 30 Tryd.underlying30 c k hz (by omega) hc hd
          obtain ⟨a', hsf, hfr, hnn⟩ := slice_from 30 Tryd.underlying30 c k hz (by omega) hc hd
          clear hd
          have HTO := Lib.hid hto
          have HFR := Lib.hid hfr
          have HNN := Lib.hid hnn
          clear hto hfr hnn
          go_wp2_with (first
            | (go_at_call 115; refine (less_any _ _ _ hlz hx).mono ?_; rintro e w' ⟨rfl, rfl⟩)
            | (at_builtin; refine wpList_append_Ints rfl (.tmp 34) (.tmp 37) 30 rfl Tryd.underlying30 w.heap.size _ _ _ [] rfl rfl (OwnI.made0 w _ (Nat.le_refl _)) _ _ _ (zs.take k) rfl (by simp; omega) (HTO.out.alloc _) HND.out (by omega) (by simp) ?_; intro a1 c1 w1 hown1 hg1 hB1; have HB1 := Lib.hid (put_below1 hB1); have HO1 := Lib.hid hown1; clear hg1 hown1 hB1)
            | (at_builtin; refine wpList_append_Ints rfl (.tmp 39) (.tmp 41) 30 rfl Tryd.underlying30 w.heap.size _ _ _ (zs.take k) rfl (by simp; omega) (OwnI.alloc HO1.out _) _ _ _ [x] rfl rfl (Ints.one w1 x (I64.of_lit hx) _) (fun h => by cases h) (by omega) (put_size1 HB1.out) ?_; intro a2 c2 w2 hown2 hg2 hB2; have HB2 := Lib.hid (put_below2 HB1.out hB2); have HO2 := Lib.hid hown2; clear hg2 hown2 hB2 HO1)
            | (at_builtin; refine wpList_append_Ints rfl (.tmp 43) (.tmp 46) 30 rfl Tryd.underlying30 w.heap.size _ _ _ (zs.take k ++ [x]) rfl (by simp; omega) HO2.out _ _ _ (zs.drop k) rfl (by simp) (HFR.out.below HB2.out) HNN.out (by omega) HB2.out.size ?_; intro a3 c3 w3 hown3 hg3 hB3; have HB3 := Lib.hid (HB2.out.trans hB3); have HO3 := Lib.hid hown3; clear hg3 hown3 hB3 HO2))
          go_ret
          exact put_doneT hn HSP.out hk HO3.out HB3.out HZW.out hx hsm
        · have hsp : M.put zs x = zs := by
            rw [M.put_split zs k x HF.out (fun y hy => by rw [HZ.out] at hy; cases hy; exact hls) (by omega), if_pos]
            rw [HZ.out]; simp at hzx; rw [hzx]
          have HSP := Lib.hid hsp
          clear hsp hzl
          go_wp2_with (go_at_call 115; refine (less_any _ _ _ hlz hx).mono ?_; rintro e w' ⟨rfl, rfl⟩)
          go_ret
          rw [HSP.out]
          exact ⟨_, _, rfl, hz, hc, hd, Below.refl _ _, HT.out⟩
      · go_wp2_with (go_at_call 115; refine (less_any _ _ _ hlz hx).mono ?_; rintro e w' ⟨rfl, rfl⟩)
        go_round
        case rel =>
          refine ⟨k + 1, by omega, by go_num, fun i y hi hy => ?_⟩
          by_cases hik : i = k
          · subst hik; rw [HZ.out] at hy; cases hy; exact hls
          · exact HF.out i y (by omega) hy
        case measure => simp [intOf]; omega
    · have hend : zs[k]? = none := List.getElem?_eq_none (by omega)
      have hsp : M.put zs x = zs.take k ++ x :: zs.drop k := by
        rw [M.put_split zs k x HF.out (fun y hy => by rw [hend] at hy; cases hy) (by omega), if_neg]
        rw [hend]; simp
      have HSP := Lib.hid hsp
      clear hsp hzl hend
      have HND := Lib.hid hd
      obtain ⟨hsl, hto⟩ := slice_to 30 Tryd.underlying30 c k hz (by omega) hc hd
      obtain ⟨a', hsf, hfr, hnn⟩ := slice_from 30 Tryd.underlying30 c k hz (by omega) hc hd
      clear hd
      have HTO := Lib.hid hto
      have HFR := Lib.hid hfr
      have HNN := Lib.hid hnn
      clear hto hfr hnn
      go_wp2_with (first
        | (at_builtin; refine wpList_append_Ints rfl (.tmp 34) (.tmp 37) 30 rfl Tryd.underlying30 w.heap.size _ _ _ [] rfl rfl (OwnI.made0 w _ (Nat.le_refl _)) _ _ _ (zs.take k) rfl (by simp; omega) (HTO.out.alloc _) HND.out (by omega) (by simp) ?_; intro a1 c1 w1 hown1 hg1 hB1; have HB1 := Lib.hid (put_below1 hB1); have HO1 := Lib.hid hown1; clear hg1 hown1 hB1)
        | (at_builtin; refine wpList_append_Ints rfl (.tmp 39) (.tmp 41) 30 rfl Tryd.underlying30 w.heap.size _ _ _ (zs.take k) rfl (by simp; omega) (OwnI.alloc HO1.out _) _ _ _ [x] rfl rfl (Ints.one w1 x (I64.of_lit hx) _) (fun h => by cases h) (by omega) (put_size1 HB1.out) ?_; intro a2 c2 w2 hown2 hg2 hB2; have HB2 := Lib.hid (put_below2 HB1.out hB2); have HO2 := Lib.hid hown2; clear hg2 hown2 hB2 HO1)
        | (at_builtin; refine wpList_append_Ints rfl (.tmp 43) (.tmp 46) 30 rfl Tryd.underlying30 w.heap.size _ _ _ (zs.take k ++ [x]) rfl (by simp; omega) HO2.out _ _ _ (zs.drop k) rfl (by simp) (HFR.out.below HB2.out) HNN.out (by omega) HB2.out.size ?_; intro a3 c3 w3 hown3 hg3 hB3; have HB3 := Lib.hid (HB2.out.trans hB3); have HO3 := Lib.hid hown3; clear hg3 hown3 hB3 HO2))
      go_ret
      exact put_doneT hn HSP.out hk HO3.out HB3.out HZW.out hx hsm
set_option maxHeartbeats 1000000 in
theorem rnormT_any (a : Option Addr) (c : Nat) (zs : List Int) (w : World) (hz : Ints w a zs) (hs : zs.length ≤ 1000000) :
    Calls Tryd.prog 71 #[.slice a zs.length c] w (RNormT w (M.rnorm zs) (zs.all M.isLit)) := by
  have HZ := Lib.hid hz
  clear hz
  go_enter Tryd.func71, Tryd.ntmps71
  go_wp2
  go_loopw [4, 6, 10] (fun v _ i wr => ∃ (k : Nat) (a' : Option Addr) (c' : Nat), k ≤ zs.length ∧ i = .int .i64 k ∧ v = .slice a' (M.norm (zs.take k)).length c' ∧ (∀ z ∈ zs.take k, M.isLit z = true) ∧ Ints wr a' (M.norm (zs.take k)) ∧ (M.norm (zs.take k)).length ≤ c' ∧ (a' = none → c' = 0) ∧ Below w.heap.size w wr ∧ TagN w.heap.size wr a') (fun _ _ i _ => zs.length - (intOf i).toNat)
  case atStart => exact ⟨0, _, 0, Nat.zero_le _, rfl, rfl, (fun z hz => by simp at hz), Ints.nil _ _, Nat.le_refl _, (fun h => by cases h), (Below.refl _ _).alloc (Nat.le_refl _) _, TagN.fresh _ _⟩
  case round =>
    obtain ⟨k, a', c', hk, rfl, rfl, hlit, hI, hcap, hnone, hb, htg⟩ := hrel
    have HTG := Lib.hid htg
    clear htg
    have HLIT := Lib.hid hlit
    have HI := Lib.hid hI
    have HCN := Lib.hid (And.intro hcap hnone)
    have HB := Lib.hid hb
    clear hlit hI hcap hnone hb
    by_cases hlt : k < zs.length
    · obtain ⟨bb, off, rfl, hbl, hc⟩ := (HZ.out.below HB.out).addr (by omega)
      obtain ⟨z, hzk⟩ : ∃ z, zs[k]? = some z := ⟨zs[k], by simp [hlt]⟩
      have hcell := hc k z hzk
      have HZK := Lib.hid hzk
      clear hc hzk
      cases hl : M.isLit z
      · go_wp2_with (go_at_call 91; refine (is_any _ _).mono ?_; rintro e w' ⟨rfl, rfl⟩)
        go_ret2
        have hall : zs.all M.isLit = false := by
          cases hh : zs.all M.isLit
          · rfl
          · have := List.all_eq_true.1 hh z (List.mem_of_getElem? HZK.out); rw [hl] at this; cases this
        rw [M.rnorm, hall]
        exact ⟨none, 0, rfl, Ints.nil _ _, Nat.le_refl _, fun _ => rfl, HB.out, TagN.none _ _⟩
      · have hln := M.norm_length (zs.take k)
        have hlt2 := List.length_take_le k zs
        have hp := putT_any w.heap.size a' c' (M.norm (zs.take k)) z wr HI.out HCN.out.1 HCN.out.2 (fun y hy => HLIT.out y ((M.mem_norm _ y).1 hy)) hl (by omega) HTG.out HB.out.size
        rw [← M.norm_snoc HZK.out] at hp
        have HP := Lib.hid hp
        clear hp hln hlt2
        go_wp2_with (first | (go_at_call 91; refine (is_any _ _).mono ?_; rintro e w' ⟨rfl, rfl⟩) | (go_at_call 92; refine HP.out.mono ?_; rintro e w2 ⟨a2, c2, rfl, i1, i2, i3, i4, i5⟩; have HT2 := Lib.hid i5; have HI2 := Lib.hid i1; have HC2 := Lib.hid (And.intro i2 i3); have HB2 := Lib.hid (HB.out.trans (i4.mono HB.out.size)); clear i1 i2 i3 i4 i5))
        go_roundw
        case rel =>
          refine ⟨k + 1, a2, c2, by omega, by go_num, rfl, fun y hy => ?_, HI2.out, HC2.out.1, HC2.out.2, HB2.out, HT2.out⟩
          rw [List.take_add_one, HZK.out] at hy
          rcases List.mem_append.1 hy with hy | hy
          · exact HLIT.out y hy
          · simp at hy; subst hy; exact hl
        case measure => simp [intOf]; omega
    · go_wp2
      go_ret2
      obtain rfl : k = zs.length := by omega
      have hI := HI.out
      have hlit := HLIT.out
      have hcn := HCN.out
      rw [List.take_of_length_le (Nat.le_refl _)] at hI hlit hcn
      have hall : zs.all M.isLit = true := List.all_eq_true.2 hlit
      rw [List.take_of_length_le (Nat.le_refl _), M.rnorm, hall, if_pos rfl]
      exact ⟨a', c', rfl, hI, hcn.1, hcn.2, HB.out, HTG.out⟩
end Go.Proofs.YtgpifbhfnbkgoaaDoor
namespace Go.Proofs.YtgpifbhfnbkgoaaDoor
open Go.RowKit
variable {X : Nat → Prop}

/-- the document's formula at block q: so many variables, these clauses, their row at a -/
structure Rf (w : World) (base q vars : Nat) (cs : List (List Int)) (a : Option Addr) (c : Nat) : Prop where
  le : base ≤ q
  blk : w.heap[q]? = some (.cells #[.int .i64 vars, .slice a cs.length c] 29 (0, 0))
  own : OwnC NoX w base a c cs
  vars : vars ≤ 20000
  len : cs.length ≤ 1000000
theorem Rf.lt {w : World} {base q vars : Nat} {cs : List (List Int)} {a : Option Addr} {c : Nat} (h : Rf w base q vars cs a c) : q < w.heap.size := (Array.getElem?_eq_some_iff.1 h.blk).1
theorem Rf.cell0 {w : World} {base q vars : Nat} {cs : List (List Int)} {a : Option Addr} {c : Nat} (h : Rf w base q vars cs a c) : w.cell? ⟨q, 0, none⟩ = some (.int .i64 vars) := by rw [cell_of_cells h.blk]; rfl
theorem Rf.cell1 {w : World} {base q vars : Nat} {cs : List (List Int)} {a : Option Addr} {c : Nat} (h : Rf w base q vars cs a c) : w.cell? ⟨q, 1, none⟩ = some (.slice a cs.length c) := by rw [cell_of_cells h.blk]; rfl
theorem Rf.frozen {w : World} {base q vars : Nat} {cs : List (List Int)} {a : Option Addr} {c : Nat} (h : Rf w base q vars cs a c) (i : Nat) : w.frozen? ⟨q, i, none⟩ = false := by simp [World.frozen?, h.blk]
theorem Rf.below {w w' : World} {base q vars : Nat} {cs : List (List Int)} {a : Option Addr} {c : Nat} (h : Rf w base q vars cs a c) (hb : Below w.heap.size w w') : Rf w' base q vars cs a c :=
  ⟨h.le, (hb.block _ h.lt).trans h.blk, h.own.below hb, h.vars, h.len⟩
theorem Rf.new (w : World) (base : Nat) (hb : base ≤ w.heap.size) : Rf (w.alloc (.cells #[.int .i64 0, .slice none 0 0] 29)) base w.heap.size 0 [] none 0 :=
  ⟨hb, by show (w.heap.push _)[w.heap.size]? = _; simp, ⟨OffX.none NoX, [], World.ownsRow_nil _ _ _ _, fun i x h => by simp at h⟩, by omega, by simp⟩
/-- where it lay, or in new memory -/
def LiesH (n : Nat) (a a' : Option Addr) : Prop := ∀ ad', a' = some ad' → (∃ ad, a = some ad ∧ ad.block = ad'.block) ∨ n ≤ ad'.block
theorem LiesH.refl (n : Nat) (a : Option Addr) : LiesH n a a := fun ad e => .inl ⟨ad, e, rfl⟩
theorem LiesH.trans {n n' : Nat} {a b c : Option Addr} (h : LiesH n a b) (h' : LiesH n' b c) (hn : n ≤ n') : LiesH n a c := fun ad e => by
  rcases h' ad e with ⟨ad1, e1, e2⟩ | h2
  · rcases h ad1 e1 with ⟨ad0, e0, e3⟩ | h3
    · exact .inl ⟨ad0, e0, e3.trans e2⟩
    · exact .inr (by omega)
  · exact .inr (by omega)
theorem LiesAt.h {n m : Nat} {a a' : Option Addr} (h : LiesAt n a a') (hm : m ≤ n) : LiesH m a a' := fun ad e => by
  rcases h ad e with h | h
  · exact .inl h
  · exact .inr (by omega)
/-- the formula goes on -/
def RPost (w : World) (base q : Nat) (a : Option Addr) (vars : Nat) (cs : List (List Int)) (w' : World) : Prop :=
  ∃ a' c', Rf w' base q vars cs a' c' ∧ KeepsF q a w w' ∧ LiesH w.heap.size a a'
theorem KeepsF.trans {q : Nat} {a b : Option Addr} {w w1 w2 : World} (h : KeepsF q a w w1) (hl : LiesH w.heap.size a b) (h2 : KeepsF q b w1 w2) : KeepsF q a w w2 :=
  ⟨h2.os.trans h.os, h2.tape.trans h.tape, h2.output.trans h.output, Nat.le_trans h.size h2.size, fun k hk hkq hka => (h2.block k (Nat.lt_of_lt_of_le hk h.size) hkq fun ad e he => by
    rcases hl ad e with ⟨ad0, e0, e1⟩ | h6
    · exact hka ad0 e0 (by omega)
    · omega).trans (h.block k hk hkq hka)⟩
theorem RPost.trans {w w1 w2 : World} {base q vars : Nat} {cs : List (List Int)} {a b : Option Addr} (h : KeepsF q a w w1) (hl : LiesH w.heap.size a b) (h2 : RPost w1 base q b vars cs w2) : RPost w base q a vars cs w2 := by
  obtain ⟨a', c', h3, h4, h5⟩ := h2
  exact ⟨a', c', h3, h.trans hl h4, hl.trans h5 h.size⟩
theorem RPost.of_below {w w1 w2 : World} {base q vars : Nat} {cs : List (List Int)} {a : Option Addr} (h : Below w.heap.size w w1) (h2 : RPost w1 base q a vars cs w2) : RPost w base q a vars cs w2 :=
  RPost.trans (KeepsF.of_below h) (LiesH.refl _ _) h2
theorem Rf.refl {w : World} {base q vars : Nat} {cs : List (List Int)} {a : Option Addr} {c : Nat} (h : Rf w base q vars cs a c) : RPost w base q a vars cs w := ⟨a, c, h, KeepsF.refl _ _ _, LiesH.refl _ _⟩
theorem Rf.stays {w w' : World} {base q vars : Nat} {cs : List (List Int)} {a : Option Addr} {c : Nat} (h : Rf w base q vars cs a c) (hb : Below w.heap.size w w') : RPost w base q a vars cs w' := ⟨a, c, h.below hb, KeepsF.of_below hb, LiesH.refl _ _⟩

/-- append(cs, ds...), and where the new row lies -/
theorem wpList_append_ClausesAt {w : World} {ops : Array Oper} {rest : List Oper} {o : Oper} {act : Act} {Q : Exit → Act → World → Prop} (hgd : o.guard = none) (s x : Operand)
    (ho : o.op = .call { callee := .builtin .append, args := #[s, x], argTypes := #[27, 27] })
    (base : Nat) (a : Option Addr) (n c : Nat) (cs : List (List Int)) (hs : act.eval s = .slice a n c) (hn : cs.length = n) (hown : OwnC X w base a c cs)
    (ad : Addr) (m d : Nat) (ds : List (List Int)) (hx : act.eval x = .slice (some ad) m d) (hm : ds.length = m) (hsrc : ClsT X w (some ad) d ds) (hX : XLt X w) (hlen : n + m ≤ 1000000) (hbase : base ≤ w.heap.size)
    (h : ∀ a' c' w', OwnC X w' base a' c' (cs ++ ds) → w.grownBy w' (Value.slice a n c).ownBlock → LiesAt w.heap.size a a' → wpList Tryd.prog ops Q rest (act.put o.dst (.slice a' (n + m) c')) w') :
    wpList Tryd.prog ops Q (o :: rest) act w := by
  subst hn hm
  obtain ⟨i0, hi, hz0, hz1, hz2⟩ := info_parts Tryd.infoClause
  have hown' := hown
  obtain ⟨hoff, vals, hrow, hvals⟩ := hown
  have hvl : vals.length = cs.length := by simpa using hrow.1
  obtain ⟨hd, vs, hvsl, hcells, hin⟩ := hsrc
  have fin : ∀ v' w', w'.ownsRow base 73 1 v' (cs.length + ds.length) (vals ++ vs) → w.grownBy w' (Value.slice a cs.length c).ownBlock → (v'.ownBlock = (Value.slice a cs.length c).ownBlock ∨ v'.ownBlock = some w.heap.size) → wpList Tryd.prog ops Q rest (act.put o.dst v') w' := by
    intro v' w' h1 h2 h3
    have hk : ∀ {b : Option Addr} {zs : List Int}, Ints w b zs → TagX X w b → Ints w' b zs ∧ TagX X w' b := by
      intro b zs h3 h4
      have r := Ints.keepG h2 (fun k hk => by
        obtain ⟨_, cur, hc⟩ := hown'.ownBlock _ k hk
        exact ⟨cur, _, hc, by decide⟩) h3 h4.tag
      exact ⟨r.1, h4.off, r.2⟩
    have : ∃ a' c', v' = .slice a' (cs.length + ds.length) c' := by
      rcases h1.2 with ⟨e, hn⟩ | ⟨g, cap, cur, e, _⟩
      · exact ⟨none, 0, by rw [e, hn]⟩
      · exact ⟨_, _, e⟩
    obtain ⟨a', c', rfl⟩ := this
    refine h a' c' w' ⟨(LiesAt.of_ownBlock h3).off hoff hX (Nat.le_refl _), vals ++ vs, by simpa using h1, fun i y hy => ?_⟩ h2 (LiesAt.of_ownBlock h3)
    by_cases hil : i < cs.length
    · rw [List.getElem?_append_left hil] at hy
      obtain ⟨a1, c1, e1, e2, e3, e4, e5⟩ := hvals i y hy
      exact ⟨a1, c1, by rw [List.getElem?_append_left (by omega)]; exact e1, (hk e2 e3).1, (hk e2 e3).2, e4, e5⟩
    · rw [List.getElem?_append_right (by omega)] at hy
      obtain ⟨a1, c1, e1, e2, e3, e4, e5⟩ := hin _ y hy
      exact ⟨a1, c1, by rw [List.getElem?_append_right (by omega), hvl]; exact e1, (hk e2 e3).1, (hk e2 e3).2, e4, e5⟩
  refine wpList_append_own_at w hgd s x 27 ho base 73 i0 (.slice none 0 0) 1 24 Tryd.underlying27 hi hz0 hz1 hz2 rfl (by decide) _ _ _ hs hrow ad ds.length d vs hx (by simpa using hvsl) ?_ ?_ ?_ ?_ hbase ?_
  · intro j u hj
    obtain ⟨ad', e, hc⟩ := hcells j u hj
    cases e; exact hc
  · intro u hu
    obtain ⟨j, hj, rfl⟩ := List.getElem_of_mem hu
    obtain ⟨a1, c1, e1, _⟩ := hin j (ds[j]'(by omega)) (List.getElem?_eq_getElem (by omega))
    rw [List.getElem?_eq_getElem hj] at e1
    rw [Option.some.inj e1]; rfl
  · unfold maxLen; omega
  · omega
  · intro v' w' h1 h2 _ h3
    exact fin v' w' h1 h2 h3
/-- behind 'f.Clauses = append(f.Clauses, x)' -/
theorem Rf.stored {w w1 w2 : World} {base q vars : Nat} {cs ds : List (List Int)} {a a' : Option Addr} {c c' n : Nat} (h : Rf w base q vars cs a c) (hb1 : Below w.heap.size w w1)
    (ho : OwnC NoX w2 base a' c' (cs ++ ds)) (hg : w1.grownBy w2 (Value.slice a n c).ownBlock) (hat : LiesAt w1.heap.size a a') (hl : cs.length + ds.length ≤ 1000000) :
    RPost w base q a vars (cs ++ ds) (w2.setCell ⟨q, 1, none⟩ (.slice a' (cs.length + ds.length) c')) := by
  have h1 := h.below hb1
  have hp1 : w2.heap[q]? = w1.heap[q]? := hg.block q h1.lt fun e => by
    obtain ⟨_, cur, hc⟩ := h1.own.ownBlock n q e.symm
    rw [h1.blk] at hc; cases hc
  have hp2 : w2.heap[q]? = some (.cells #[.int .i64 vars, .slice a cs.length c] 29 (0, 0)) := hp1.trans h1.blk
  have hother : ∀ k, k ≠ q → (w2.setCell ⟨q, 1, none⟩ (.slice a' (cs.length + ds.length) c')).heap[k]? = w2.heap[k]? := fun k hk => Below.heap_setCell _ _ _ _ hk
  have hblk : (w2.setCell ⟨q, 1, none⟩ (.slice a' (cs.length + ds.length) c')).heap[q]? = some (.cells #[.int .i64 vars, .slice a' (cs.length + ds.length) c'] 29 (0, 0)) := by
    simp [World.setCell, Array.getElem?_modify, hp2]
  refine ⟨a', c', ⟨h.le, by simpa using hblk, ?_, h.vars, by simpa using hl⟩, ⟨hg.os.trans hb1.os, hg.tape.trans hb1.tape, hg.output.trans hb1.output, ?_, fun k hk hkp hka => ?_⟩, hat.h hb1.size⟩
  · obtain ⟨hoff, vals, hr, hv⟩ := ho
    have hkI : ∀ {b : Option Addr} {zs : List Int}, Ints w2 b zs → TagX NoX w2 b → Ints (w2.setCell ⟨q, 1, none⟩ (.slice a' (cs.length + ds.length) c')) b zs ∧ TagX NoX (w2.setCell ⟨q, 1, none⟩ (.slice a' (cs.length + ds.length) c')) b := by
      intro b zs hz ht
      have key : ∀ ad, b = some ad → (w2.setCell ⟨q, 1, none⟩ (.slice a' (cs.length + ds.length) c')).heap[ad.block]? = w2.heap[ad.block]? := by
        intro ad e
        obtain ⟨cur, m, hc⟩ := ht.tag ad e
        refine hother _ fun e' => ?_
        rw [e', hp2] at hc; cases hc
      exact ⟨hz.same (by simp [World.setCell]) key, ht.off, ht.tag.same key⟩
    refine ⟨hoff, vals, ?_, fun i y hy => ?_⟩
    · refine ⟨hr.1, ?_⟩
      rcases hr.2 with h0 | ⟨g, cap, cur, e, hbg, hgg, r⟩
      · exact .inl h0
      · refine .inr ⟨g, cap, cur, e, hbg, (hother g fun e' => ?_).trans hgg, r⟩
        rw [e', hp2] at hgg; cases hgg
    · obtain ⟨a1, c1, e1, e2, e3, e4, e5⟩ := hv i y hy
      exact ⟨a1, c1, e1, (hkI e2 e3).1, (hkI e2 e3).2, e4, e5⟩
  · have := hg.size; have := hb1.size; simp [World.setCell]; omega
  · rw [hother k hkp, hg.block k (Nat.lt_of_lt_of_le hk hb1.size) (fun e => ?_), hb1.block k hk]
    cases a with
    | none => simp [Value.ownBlock] at e
    | some ad => simp [Value.ownBlock] at e; exact hka ad rfl e
theorem Rf.grown {w w2 : World} {base q vars : Nat} {cs : List (List Int)} {a : Option Addr} {c n : Nat} (h : Rf w base q vars cs a c) (hg : w.grownBy w2 (Value.slice a n c).ownBlock) :
    w2.cell? ⟨q, 1, none⟩ = some (.slice a cs.length c) ∧ w2.frozen? ⟨q, 1, none⟩ = false ∧ w2.cell? ⟨q, 0, none⟩ = some (.int .i64 vars) := by
  have hp : w2.heap[q]? = w.heap[q]? := hg.block q h.lt fun e => by
    obtain ⟨_, cur, hc⟩ := h.own.ownBlock n q e.symm
    rw [h.blk] at hc; cases hc
  exact ⟨(World.cell?_of_block (a := ⟨q, 1, none⟩) hp).trans h.cell1, (World.frozen?_of_block (a := ⟨q, 1, none⟩) hp).trans (h.frozen 1), (World.cell?_of_block (a := ⟨q, 0, none⟩) hp).trans h.cell0⟩
/-- .. with another number of variables -/
theorem Rf.setV1 {w w' : World} {base q vars v : Nat} {cs : List (List Int)} {a : Option Addr} {c : Nat} (h : Rf w base q vars cs a c) (hk : AllBut q w w') (hp : w'.heap[q]? = some (.cells #[.int .i64 v, .slice a cs.length c] 29 (0, 0))) (hv : v ≤ 20000) :
    Rf w' base q v cs a c ∧ KeepsF q a w w' := by
  refine ⟨⟨h.le, hp, ?_, hv, h.len⟩, ⟨hk.os, hk.tape, hk.output, hk.size, fun k hlt hkp _ => hk.block k hlt hkp⟩⟩
  obtain ⟨hoff, vals, hr, hv⟩ := h.own
  refine ⟨hoff, vals, ⟨hr.1, ?_⟩, fun i y hy => ?_⟩
  · rcases hr.2 with h0 | ⟨g, cap, cur, e, hbg, hgg, r⟩
    · exact .inl h0
    · refine .inr ⟨g, cap, cur, e, hbg, (hk.block g (Array.getElem?_eq_some_iff.1 hgg).1 fun e' => ?_).trans hgg, r⟩
      rw [e', h.blk] at hgg; cases hgg
  · obtain ⟨a1, c1, e1, e2, e3, e4, e5⟩ := hv i y hy
    have key : ∀ ad, a1 = some ad → w'.heap[ad.block]? = w.heap[ad.block]? := by
      intro ad e
      obtain ⟨cur, m, hc⟩ := e3.tag ad e
      refine hk.block _ (Array.getElem?_eq_some_iff.1 hc).1 fun e' => ?_
      rw [e', h.blk] at hc; cases hc
    exact ⟨a1, c1, e1, e2.same hk.size key, ⟨e3.off, e3.tag.same key⟩, e4, e5⟩
theorem Rf.setV {w w' : World} {base q vars v : Nat} {cs : List (List Int)} {a : Option Addr} {c : Nat} (h : Rf w base q vars cs a c) (hk : AllBut q w w') (hp : w'.heap[q]? = some (.cells #[.int .i64 v, .slice a cs.length c] 29 (0, 0))) (hv : v ≤ 20000) :
    RPost w base q a v cs w' := ⟨a, c, (h.setV1 hk hp hv).1, (h.setV1 hk hp hv).2, LiesH.refl _ _⟩

theorem rown_any (q vars : Nat) (b : Option Addr) (d : Nat) (zs : List Int) (w : World) (h0 : w.cell? ⟨q, 0, none⟩ = some (.int .i64 vars)) (hv : vars ≤ 20000) (hz : Ints w b zs) :
    Calls Tryd.prog 37 #[.pointer (some ⟨q, 0, none⟩), .slice b zs.length d] w fun e w' => e = .returned (.bool (M.own vars zs)) ∧ w = w' := by
  have hlen := hz.len
  go_enter Tryd.func37, Tryd.ntmps37
  go_wp2
  go_loop [6, 9] (fun _ i => ∃ k : Nat, k ≤ zs.length ∧ i = .int .i64 k ∧ M.own vars (zs.take k) = true) (fun _ i => zs.length - (intOf i).toNat)
  case atStart => exact ⟨0, Nat.zero_le _, rfl, rfl⟩
  case round =>
    obtain ⟨k, hk, rfl, hf⟩ := hrel
    have HF := Lib.hid hf
    clear hf
    by_cases hlt : k < zs.length
    · obtain ⟨b, off, rfl, hbl, hc⟩ := hz.addr (by omega)
      obtain ⟨z, hzk⟩ : ∃ z, zs[k]? = some z := ⟨zs[k], by simp [hlt]⟩
      have hcell := hc k z hzk
      have HZ := Lib.hid hzk
      clear hc hzk
      by_cases h1 : z = 0
      · have hb1 : (z == 0) = true := by simpa using h1
        have HE := Lib.hid h1
        clear h1
        go_wp2
        go_ret
        refine ⟨ret_bool ?_, rfl⟩
        exact (M.own_miss HZ.out (by rw [HE.out]; simp)).symm
      · have hb1 : (z == 0) = false := by simpa using h1
        by_cases h3 : (vars : Int) < z
        · have hd : decide ((vars : Int) < z) = true := by simpa using h3
          go_wp2
          go_ret
          exact ⟨ret_bool (M.own_miss HZ.out (by omega)).symm, rfl⟩
        · have hd : decide ((vars : Int) < z) = false := by simpa using h3
          by_cases h2 : z < -(vars : Int)
          · go_wp2
            go_ret
            exact ⟨ret_bool (M.own_miss HZ.out (by omega)).symm, rfl⟩
          · go_wp2
            go_round
            case rel => exact ⟨k + 1, by omega, by go_num, M.own_step HZ.out HF.out (by omega)⟩
            case measure => simp [intOf]; omega
    · go_wp2
      go_ret
      refine ⟨ret_bool ?_, rfl⟩
      have := HF.out
      rw [List.take_of_length_le (by omega)] at this
      exact this.symm
/-- the right clause of literals, or that there is none -/
def PlainPost (w : World) (zs : List Int) (e : Ending) (w' : World) : Prop :=
  Below w.heap.size w w' ∧ ((M.adj (M.norm zs) = true ∧ e = .returned (.tuple #[.slice none 0 0, .bool false])) ∨
    (M.adj (M.norm zs) = false ∧ ∃ a' c', e = .returned (.tuple #[.slice a' (M.norm zs).length c', .bool true]) ∧ Ints w' a' (M.norm zs) ∧ (M.norm zs).length ≤ c' ∧ (a' = none → c' = 0) ∧ TagN w.heap.size w' a'))
theorem rplain_any (b : Option Addr) (d : Nat) (zs : List Int) (w : World) (hz : Ints w b zs) (hl : ∀ z ∈ zs, M.isLit z = true) (hs : zs.length ≤ 1000000) :
    Calls Tryd.prog 43 #[.slice b zs.length d] w (PlainPost w zs) := by
  have hn := rnormT_any b d zs w hz hs
  have hall : zs.all M.isLit = true := List.all_eq_true.2 hl
  have hrn : M.rnorm zs = M.norm zs := by unfold M.rnorm; rw [hall]; rfl
  rw [hrn, hall] at hn
  have HN := Lib.hid hn
  have HADJ := Lib.hid (M.adj_norm hl)
  have HML := Lib.hid (fun x => M.mem_norm zs x)
  have hnl : ∀ z ∈ M.norm zs, M.isLit z = true := fun z h => hl z ((M.mem_norm zs z).1 h)
  have HL := Lib.hid hnl
  have hlen := M.norm_length zs
  clear hn hall hrn hl hnl hz
  go_enter Tryd.func43, Tryd.ntmps43
  go_wp2_with fail
  refine HN.out.mono ?_
  rintro e w1 ⟨a1, c1, rfl, hI, hcap, hnone, hb, htg⟩
  have HI := Lib.hid hI
  have HCN := Lib.hid (And.intro hcap hnone)
  have HB := Lib.hid hb
  have HT := Lib.hid htg
  clear hI hcap hnone hb htg HN
  go_wp2
  go_loop [7, 15] (fun _ i => ∃ k : Nat, k ≤ (M.norm zs).length ∧ i = .int .i64 k ∧ ∀ x ∈ (M.norm zs).take k, M.inn (M.norm zs) (-x) = false) (fun _ i => (M.norm zs).length - (intOf i).toNat)
  case atStart => exact ⟨0, Nat.zero_le _, rfl, fun x hx => by simp at hx⟩
  case round =>
    obtain ⟨k, hk, rfl, hf⟩ := hrel
    have HF := Lib.hid hf
    clear hf
    by_cases hlt : k < (M.norm zs).length
    · obtain ⟨bb, off, rfl, hbl, hc⟩ := HI.out.addr (by omega)
      obtain ⟨z, hzk⟩ : ∃ z, (M.norm zs)[k]? = some z := ⟨(M.norm zs)[k], by simp [hlt]⟩
      have hcell := hc k z hzk
      have hzl := (M.isLit_iff z).1 (HL.out z (List.mem_of_getElem? hzk))
      have hz1 : -20000 ≤ z := hzl.2.1
      have hz2 : z ≤ 20000 := hzl.2.2
      have HZ := Lib.hid hzk
      clear hc hzk hzl
      have hin := in_any (some ⟨bb, off, none⟩) c1 (M.norm zs) (-z) w1 HI.out
      have HIN := Lib.hid hin
      clear hin
      cases hq : M.inn (M.norm zs) (-z)
      · rw [hq] at HIN
        have HQ := Lib.hid hq
        clear hq
        go_wp2_with fail
        refine HIN.out.mono ?_
        rintro e w' ⟨rfl, rfl⟩
        go_wp2
        go_round
        case rel =>
          refine ⟨k + 1, by omega, by go_num, fun x hx => ?_⟩
          rw [List.take_add_one, HZ.out] at hx
          rcases List.mem_append.1 hx with hx | hx
          · exact HF.out x hx
          · simp at hx; subst hx; exact HQ.out
        case measure => simp [intOf]; omega
      · rw [hq] at HIN
        have HQ := Lib.hid hq
        clear hq
        go_wp2_with fail
        refine HIN.out.mono ?_
        rintro e w' ⟨rfl, rfl⟩
        go_wp2
        go_ret2
        have h1 : z ∈ zs := (HML.out z).1 (List.mem_of_getElem? HZ.out)
        have h2 : -z ∈ zs := (HML.out (-z)).1 ((M.inn_iff _ _).1 HQ.out)
        exact ⟨HB.out, .inl ⟨HADJ.out.2 ⟨z, h1, h2⟩, rfl⟩⟩
    · go_wp2
      go_ret2
      obtain rfl : k = (M.norm zs).length := by omega
      have hF := HF.out
      rw [List.take_length] at hF
      refine ⟨HB.out, .inr ⟨?_, a1, c1, rfl, HI.out, HCN.out.1, HCN.out.2, HT.out⟩⟩
      cases hh : M.adj (M.norm zs)
      · rfl
      · obtain ⟨x, h1, h2⟩ := HADJ.out.1 hh
        have h3 := hF x ((HML.out x).2 h1)
        rw [(M.inn_iff _ _).2 ((HML.out (-x)).2 h2)] at h3; cases h3
end Go.Proofs.YtgpifbhfnbkgoaaDoor
namespace Go.Proofs.YtgpifbhfnbkgoaaDoor
open Go.RowKit

theorem OwnL.keepsF {w w' : World} {base q vars : Nat} {cs : List (List Int)} {a : Option Addr} {c : Nat} {la : Option Addr} {lc : Nat} {ls : List (List Int)} (h : OwnL NoX w base la lc ls) (hF : Rf w base q vars cs a c) (hk : KeepsF q a w w') (hb : base ≤ w.heap.size) : OwnL NoX w' base la lc ls := by
  refine h.turn hb hk.size (fun k hlt _ hl => hk.block k hlt ?_ ?_) (fun _ h => .inl h)
  · rintro rfl
    rcases hl with h' | ⟨cur, e, m, hc, he⟩
    · have := hF.le; omega
    · rw [hF.blk] at hc; cases hc
      rcases he with he | he <;> exact absurd he (by decide)
  · rintro ad e rfl
    obtain ⟨h1, cur', hg⟩ := hF.own.row ad e
    rcases hl with h' | ⟨cur, e, m, hc, he⟩
    · omega
    · rw [hg] at hc; cases hc
      rcases he with he | he <;> exact absurd he (by decide)
theorem OwnL.one (w : World) (base : Nat) (hb : base ≤ w.heap.size) (b : Option Addr) (d : Nat) (zs : List Int) (hz : Ints w b zs) (hk : KeptI w base (eff b zs)) :
    OwnL NoX (w.alloc (.cells #[.slice b zs.length d] 30)) base (some ⟨w.heap.size, 0, none⟩) 1 [zs] := by
  refine ⟨NoX.off _, [.slice b zs.length d], ⟨rfl, .inr ⟨w.heap.size, 1, #[.slice b zs.length d], rfl, hb, by show (w.heap.push _)[w.heap.size]? = _; simp, Nat.le_refl _, by decide, rfl, rfl⟩⟩, fun i x hx => ?_⟩
  match i, hx with
  | 0, hx =>
    simp at hx; subst hx
    exact ⟨b, d, rfl, hz.alloc _, hk.below (below_alloc (Below.refl _ _) _), NoX.off _⟩
set_option maxHeartbeats 2000000 in
set_option maxRecDepth 20000 in
theorem rput_any (base q vars : Nat) (cs : List (List Int)) (a : Option Addr) (c : Nat) (la : Option Addr) (lc : Nat) (ls : List (List Int)) (w : World) (hF : Rf w base q vars cs a c) (hL : OwnL NoX w base la lc ls) (hb : base ≤ w.heap.size)
    (hl : ∀ l ∈ ls, (∀ x ∈ l, M.isLit x = true) ∧ l.length ≤ 1000000) (hsm : cs.length + ls.length ≤ 1000000) :
    Calls Tryd.prog 38 #[.pointer (some ⟨q, 0, none⟩), .slice la ls.length lc] w fun e w' => e = .returned (.tuple #[]) ∧ RPost w base q a vars (ls.foldl M.addC cs) w' := by
  have HF := Lib.hid hF
  have HL := Lib.hid hL
  have HLI := Lib.hid hl
  have hqb := hF.le
  clear hF hL hl
  go_enter Tryd.func38, Tryd.ntmps38
  go_wp2
  go_loopw [5, 6, 7, 10] (fun _ _ _ i wr => ∃ (k : Nat) (a' : Option Addr) (c' : Nat), k ≤ ls.length ∧ i = .int .i64 k ∧ Rf wr base q vars ((ls.take k).foldl M.addC cs) a' c' ∧ KeepsF q a w wr ∧ LiesH w.heap.size a a') (fun _ _ _ i _ => ls.length - (intOf i).toNat)
  case atStart => exact ⟨0, a, c, Nat.zero_le _, rfl, HF.out, KeepsF.refl _ _ _, LiesH.refl _ _⟩
  case round =>
    obtain ⟨k, a', c', hk, rfl, hF1, hK1, hL1⟩ := hrel
    have hbr : base ≤ wr.heap.size := Nat.le_trans hb hK1.size
    have HOL := Lib.hid (HL.out.keepsF HF.out hK1 hb)
    have HF1 := Lib.hid hF1
    have HK1 := Lib.hid hK1
    have HL1 := Lib.hid hL1
    have hlen1 := M.addCs_length cs (ls.take k)
    have htk := List.length_take_le k ls
    clear hF1 hK1 hL1
    by_cases hlt : k < ls.length
    · obtain ⟨x, hx⟩ : ∃ x, ls[k]? = some x := ⟨ls[k], by simp [hlt]⟩
      obtain ⟨g, a2, c2, rfl, hcell, hI⟩ := HOL.out.cell hx
      have hx1 := HLI.out x (List.mem_of_getElem? hx)
      have hpl := rplain_any a2 c2 x wr hI hx1.1 hx1.2
      have HP := Lib.hid hpl
      have hstep : (ls.take (k + 1)).foldl M.addC cs = M.addC ((ls.take k).foldl M.addC cs) x := by
        rw [List.take_add_one, hx]; simp [List.foldl_append]
      have hadd : M.addC ((ls.take k).foldl M.addC cs) x = if M.adj (M.norm x) then (ls.take k).foldl M.addC cs else (ls.take k).foldl M.addC cs ++ [M.norm x] := rfl
      rw [hadd] at hstep
      have HST := Lib.hid hstep
      clear hpl hx hI hx1 hstep hadd
      go_wp2_with fail
      refine HP.out.mono ?_
      rintro e w2 ⟨hb2, h2⟩
      have HB2 := Lib.hid hb2
      clear hb2 HP
      rcases h2 with ⟨hadj, rfl⟩ | ⟨hadj, a3, c3, rfl, h3, h4, h5, h6⟩
      · rw [hadj] at HST
        have hst := HST.out
        simp only [if_true] at hst
        have HST2 := Lib.hid hst
        clear hadj hst HST
        go_wp2
        go_roundw
        case rel => exact ⟨k + 1, a', c', by omega, by go_num, by rw [HST2.out]; exact HF1.out.below HB2.out, KeepsF.trans HK1.out HL1.out (KeepsF.of_below HB2.out), HL1.out⟩
        case measure => simp [intOf]; omega
      · rw [hadj] at HST
        have hst := HST.out
        simp only [Bool.false_eq_true, if_false] at hst
        have HST2 := Lib.hid hst
        clear hadj hst HST
        have hF2 := HF1.out.below HB2.out
        have hc1 := hF2.cell1
        have hps2 := hF2.lt
        have HF2 := Lib.hid hF2
        have HI := Lib.hid h3
        have HTG := Lib.hid (h6.x (NoX.lt _))
        have HCN := Lib.hid (And.intro h4 h5)
        have hbz : base ≤ w2.heap.size := Nat.le_trans hbr HB2.out.size
        clear hF2 h3 h4 h5 h6
        go_wp2_with (at_builtin; refine wpList_append_ClausesAt rfl (.tmp 24) (.tmp 26) rfl base _ _ _ ((ls.take k).foldl M.addC cs) rfl rfl (HF2.out.below (below_alloc (Below.refl _ _) _)).own ⟨w2.heap.size, 0, none⟩ 1 1 [M.norm x] rfl rfl (ClsT.one (b := a3) (d := c3) (by simp) (HI.out.alloc _) (HTG.out.below (below_alloc (Below.refl _ _) _)) HCN.out.1 HCN.out.2) (NoX.lt _) (by omega) (by simp; omega) ?_; intro a4 c4 w4 hown4 hg4 hat4; obtain ⟨hk1, hk2, hk0⟩ := (HF2.out.below (below_alloc (Below.refl _ _) _)).grown hg4; have HO4 := Lib.hid hown4; have HG4 := Lib.hid hg4; have HAT := Lib.hid hat4; clear hown4 hg4 hat4)
        go_roundw
        case rel =>
          obtain ⟨a5, c5, r1, r2, r3⟩ := HF1.out.stored (below_alloc HB2.out _) HO4.out HG4.out HAT.out (by simp; omega)
          exact ⟨k + 1, a5, c5, by omega, by go_num, by rw [HST2.out]; exact r1, HK1.out.trans HL1.out r2, HL1.out.trans r3 HK1.out.size⟩
        case measure => simp [intOf]; omega
    · go_wp2
      go_end0
      obtain rfl : k = ls.length := by omega
      have h := HF1.out
      rw [List.take_length] at h
      exact ⟨rfl, a', c', h, HK1.out, HL1.out⟩
set_option maxHeartbeats 1000000 in
set_option maxRecDepth 20000 in
theorem radd_ok (base q vars : Nat) (cs : List (List Int)) (a : Option Addr) (c : Nat) (b : Option Addr) (d : Nat) (zs : List Int) (w : World) (hF : Rf w base q vars cs a c) (hb : base ≤ w.heap.size) (hz : Ints w b zs) (hzk : KeptI w base (eff b zs)) (hown : M.own vars zs = true) (hs : zs.length ≤ 1000000) (hsm : cs.length + 1 ≤ 200000) :
    Calls Tryd.prog 14 #[.pointer (some ⟨q, 0, none⟩), .slice b zs.length d] w fun e w' => e = .returned (.int .i64 0) ∧ RPost w base q a vars (M.addC cs zs) w' := by
  have hlit := M.own_isLit hF.vars hown
  have hdl : decide ((200000 : Int) ≤ (cs.length : Int)) = false := by simp; omega
  have ho := rown_any q vars b d zs w hF.cell0 hF.vars hz
  rw [hown] at ho
  have HO := Lib.hid ho
  have HP := Lib.hid (rplain_any b d zs w hz hlit hs)
  have hput : ∀ W, Below w.heap.size w W → Calls Tryd.prog 38 #[.pointer (some ⟨q, 0, none⟩), .slice (some ⟨W.heap.size, 0, none⟩) 1 1] (W.alloc (.cells #[.slice b zs.length d] 30)) fun e w' => e = .returned (.tuple #[]) ∧ RPost w base q a vars (M.addC cs zs) w' := by
    intro W hW
    have hbW : base ≤ W.heap.size := Nat.le_trans hb hW.size
    have hWa := below_alloc hW (.cells #[.slice b zs.length d] 30)
    have h := rput_any base q vars cs a c (some ⟨W.heap.size, 0, none⟩) 1 [zs] (W.alloc (.cells #[.slice b zs.length d] 30)) (hF.below hWa) (OwnL.one W base hbW b d zs (hz.below hW) (hzk.below hW)) (by simp; omega) (fun l hl => by simp at hl; subst hl; exact ⟨hlit, hs⟩) (by simp; omega)
    exact h.mono fun e w' ⟨h1, h2⟩ => ⟨h1, RPost.of_below hWa h2⟩
  have HPUT := Lib.hid hput
  have hc1 : ∀ W, Below w.heap.size w W → W.cell? ⟨q, 1, none⟩ = some (.slice a cs.length c) := fun W hW => (hF.below hW).cell1
  have HC1 := Lib.hid hc1
  clear ho hput hown hF hz hzk hlit hc1
  go_enter Tryd.func14, Tryd.ntmps14
  go_wp2_with (go_at_call 37; refine HO.out.mono ?_; rintro e w' ⟨rfl, rfl⟩)
  refine HP.out.mono ?_
  rintro e w2 ⟨hb2, h2⟩
  have HB2 := Lib.hid hb2
  have hk1 := HC1.out w2 hb2
  clear hb2 HP
  rcases h2 with ⟨hadj, rfl⟩ | ⟨hadj, a3, c3, rfl, h3, h4, h5, h6⟩
  all_goals
    clear hadj
    try clear h3 h4 h5 h6
    go_wp2_with fail
    refine (HPUT.out w2 HB2.out).mono ?_
    rintro e w3 ⟨rfl, hp⟩
    have HPO := Lib.hid hp
    clear hp
    go_wp2
    go_ret
    exact ⟨rfl, HPO.out⟩
theorem radd_bad (base q vars : Nat) (cs : List (List Int)) (a : Option Addr) (c : Nat) (b : Option Addr) (d : Nat) (zs : List Int) (w : World) (hF : Rf w base q vars cs a c) (hz : Ints w b zs) (hown : M.own vars zs = false) :
    Calls Tryd.prog 14 #[.pointer (some ⟨q, 0, none⟩), .slice b zs.length d] w fun e w' => e = .returned (.int .i64 10) ∧ w = w' := by
  have ho := rown_any q vars b d zs w hF.cell0 hF.vars hz
  rw [hown] at ho
  have HO := Lib.hid ho
  clear ho hown
  go_enter Tryd.func14, Tryd.ntmps14
  go_wp2_with (go_at_call 37; refine HO.out.mono ?_; rintro e w' ⟨rfl, rfl⟩)
  go_ret
  exact ⟨rfl, rfl⟩
/-- new variables came back -/
def RManyOk (w : World) (base q vars n : Nat) (cs : List (List Int)) (a : Option Addr) (e : Ending) (w' : World) : Prop :=
  ∃ a' c', e = .returned (.tuple #[.slice a' n c', .int .i64 0]) ∧ Ints w' a' (M.iota vars n) ∧ RPost w base q a (vars + n) cs w'
theorem M.iota_succ (v k : Nat) : M.iota v (k + 1) = M.iota v k ++ [(v : Int) + (k : Int) + 1] := by
  simp [M.iota, List.range_succ]; omega
theorem M.iota_i64 {v n : Nat} (h : v + n ≤ 20000) : ∀ z ∈ M.iota v n, I64 z := fun z hz => by
  simp only [M.iota, List.mem_map, List.mem_range] at hz
  obtain ⟨i, hi, rfl⟩ := hz
  constructor <;> omega
theorem rmany_own {wr : World} {base q : Nat} {u v : Value} {a' : Option Addr} {c' : Nat} {ys : List Int} (hp : wr.heap[q]? = some (.cells #[u, v] 29 (0, 0))) (ho : OwnI wr base a' c' ys) (z : Int) : OwnI (wr.setCell ⟨q, 0, none⟩ (.int .i64 z)) base a' c' ys :=
  OwnI.kept ho fun g cur _ hg => Below.heap_setCell _ _ _ _ fun e => by rw [show g = q from e, hp] at hg; cases hg
theorem ints_set1 (wr : World) (q : Nat) (v : Value) (z : Int) (hz : I64 z) : Ints ((wr.setCell ⟨q, 0, none⟩ v).alloc (.cells #[.int .i64 z] 3)) (some ⟨wr.heap.size, 0, none⟩) [z] := by
  have h := Ints.one (wr.setCell ⟨q, 0, none⟩ v) z hz 3
  have e : (wr.setCell ⟨q, 0, none⟩ v).heap.size = wr.heap.size := by simp [World.setCell]
  rwa [e] at h
theorem rmany_step {w wr w3 : World} {q vars k n : Nat} {o : Obj} {v : Value} {a' : Option Addr} {c' : Nat} {ys : List Int} (hql : q < w.heap.size) (hp : wr.heap[q]? = some (.cells #[.int .i64 ((vars + k : Nat) : Int), v] 29 (0, 0))) (ho : OwnI wr w.heap.size a' c' ys) (hall : AllBut q w wr)
    (hg : ((wr.setCell ⟨q, 0, none⟩ (.int .i64 ((vars : Int) + (k : Int) + 1))).alloc o).grownBy w3 (Value.slice a' n c').ownBlock) :
    w3.heap[q]? = some (.cells #[.int .i64 ((vars + (k + 1) : Nat) : Int), v] 29 (0, 0)) ∧ AllBut q w w3 := by
  have hqr : q < wr.heap.size := (Array.getElem?_eq_some_iff.1 hp).1
  have hs3 := hg.size
  have hs1 := hall.size
  simp [World.setCell] at hs3
  have hne : ∀ j, j < w.heap.size → some j ≠ (Value.slice a' n c').ownBlock := fun j hj e => by
    have := ownBlock_ge ho j n e.symm; omega
  have key : ∀ j, j < w.heap.size → w3.heap[j]? = (wr.setCell ⟨q, 0, none⟩ (.int .i64 ((vars : Int) + (k : Int) + 1))).heap[j]? := fun j hj => by
    rw [hg.block j (by simp [World.setCell]; omega) (hne j hj)]
    exact Below.heap_alloc _ _ j (by simp [World.setCell]; omega)
  refine ⟨?_, hg.os.trans hall.os, hg.tape.trans hall.tape, hg.output.trans hall.output, by omega, fun j hj hjq => ?_⟩
  · rw [key q hql]
    simp [World.setCell, Array.getElem?_modify, hp]
    omega
  · rw [key j hj, Below.heap_setCell _ _ _ _ hjq]
    exact hall.block j hj hjq
set_option maxHeartbeats 2000000 in
theorem rmany_ok (base q vars : Nat) (x : Int) (cs : List (List Int)) (a : Option Addr) (c : Nat) (w : World) (hF : Rf w base q vars cs a c) (hx : x ≤ 20000 - (vars : Int)) (hx0 : -9223372036854775808 ≤ x) :
    Calls Tryd.prog 18 #[.pointer (some ⟨q, 0, none⟩), .int .i64 x] w (RManyOk w base q vars x.toNat cs a) := by
  have h0 := hF.cell0
  have hv := hF.vars
  have hql := hF.lt
  have hbl := hF.blk
  have HBL := Lib.hid hbl
  have HF := Lib.hid hF
  have hd0 : decide ((20000 : Int) - (vars : Int) < x) = false := by simp; omega
  clear hF hbl
  go_enter Tryd.func18, Tryd.ntmps18
  go_wp2
  go_loopw [6, 7] (fun v i wr => ∃ (k : Nat) (a' : Option Addr) (c' : Nat), k ≤ x.toNat ∧ i = .int .i64 k ∧ v = .slice a' k c' ∧ wr.heap[q]? = some (.cells #[.int .i64 ((vars + k : Nat) : Int), .slice a cs.length c] 29 (0, 0)) ∧ OwnI wr w.heap.size a' c' (M.iota vars k) ∧ AllBut q w wr) (fun _ i _ => x.toNat - (intOf i).toNat)
  case atStart => exact ⟨0, _, 0, Nat.zero_le _, rfl, rfl, (((Below.refl _ _).alloc (Nat.le_refl _) _).block q hql).trans HBL.out, OwnI.made0 w _ (Nat.le_refl _), AllBut.of_below ((Below.refl _ _).alloc (Nat.le_refl _) _)⟩
  case round =>
    obtain ⟨k, a', c', hk, rfl, rfl, hp, ho, hall⟩ := hrel
    have hc0 : wr.cell? ⟨q, 0, none⟩ = some (.int .i64 ((vars : Int) + (k : Int))) := by rw [cell_of_cells hp]; simp
    have hf0 : wr.frozen? ⟨q, 0, none⟩ = false := by simp [World.frozen?, hp]
    have hqr : q < wr.heap.size := (Array.getElem?_eq_some_iff.1 hp).1
    have HP := Lib.hid hp
    have HO := Lib.hid ho
    have HA := Lib.hid hall
    have hsz : w.heap.size ≤ wr.heap.size := hall.size
    clear hp ho hall
    by_cases hlt : k < x.toNat
    · have hkx : (k : Int) < x := by omega
      have HST := Lib.hid (rmany_own HP.out HO.out ((vars : Int) + (k : Int) + 1))
      go_wp2_with (at_builtin; refine wpList_append_Ints rfl (.tmp 28) (.tmp 33) 30 rfl Tryd.underlying30 w.heap.size _ _ _ (M.iota vars k) rfl (M.iota_length _ _) (HST.out.alloc _) _ _ _ [(vars : Int) + (k : Int) + 1] rfl rfl (ints_set1 _ _ _ _ (by constructor <;> omega)) (fun h => by cases h) (by omega) (by simp [World.setCell]; omega) ?_; intro a3 c3 w3 hown3 hg3 hB3; have HO3 := Lib.hid hown3; have HG3 := Lib.hid hg3; clear hown3 hg3 hB3)
      go_roundw
      case rel =>
        obtain ⟨r1, r2⟩ := rmany_step hql HP.out HO.out HA.out HG3.out
        exact ⟨k + 1, a3, c3, by omega, by go_num, rfl, r1, by rw [M.iota_succ]; exact HO3.out, r2⟩
      case measure => simp [intOf]; omega
    · have hkx : ¬ (k : Int) < x := by omega
      go_wp2
      go_ret2
      obtain rfl : k = x.toNat := by omega
      refine ⟨a', c', rfl, ?_, HF.out.setV HA.out HP.out (by omega)⟩
      exact HO.out.ints (M.iota_i64 (by omega)) (by rw [M.iota_length]; omega)
theorem rmany_lim (q vars : Nat) (x : Int) (w : World) (h0 : w.cell? ⟨q, 0, none⟩ = some (.int .i64 vars)) (hv : vars ≤ 20000) (hx : 20000 - (vars : Int) < x) :
    Calls Tryd.prog 18 #[.pointer (some ⟨q, 0, none⟩), .int .i64 x] w fun e w' => e = .returned (.tuple #[.slice none 0 0, .int .i64 12]) ∧ w = w' := by
  have hd0 : decide ((20000 : Int) - (vars : Int) < x) = true := by simp; omega
  go_enter Tryd.func18, Tryd.ntmps18
  go_wp2
  go_ret2
  exact ⟨rfl, rfl⟩
theorem M.eqs_self (l : List Int) : M.eqs l l = true := by simp [M.eqs]
set_option maxHeartbeats 2000000 in
set_option maxRecDepth 100000 in
theorem rsame_any (base q vars : Nat) (cs : List (List Int)) (a : Option Addr) (c : Nat) (la : Option Addr) (lc : Nat) (w : World) (hF : Rf w base q vars cs a c) (hL : Cls w la cs) :
    Calls Tryd.prog 23 #[.pointer (some ⟨q, 0, none⟩), .slice la cs.length lc] w fun e w' => e = .returned (.bool true) ∧ Below w.heap.size w w' := by
  have h1 := hF.cell1
  have hlen := hF.len
  have hb0 : ((cs.length : Int) != (cs.length : Int)) = false := by simp
  have HF := Lib.hid hF
  have HL := Lib.hid hL
  clear hF hL
  go_enter Tryd.func23, Tryd.ntmps23
  go_wp2
  clear h1
  go_loopw [5, 16] (fun _ i wr => ∃ k : Nat, k ≤ cs.length ∧ i = .int .i64 k ∧ Below w.heap.size w wr) (fun _ i _ => cs.length - (intOf i).toNat)
  case atStart => exact ⟨0, Nat.zero_le _, rfl, Below.refl _ _⟩
  case round =>
    obtain ⟨k, hk, rfl, hbr⟩ := hrel
    have HB := Lib.hid hbr
    clear hbr
    by_cases hlt : k < cs.length
    · have hF1 := HF.out.below HB.out
      have hL1 := HL.out.below HB.out
      obtain ⟨x, hx⟩ : ∃ x, cs[k]? = some x := ⟨cs[k], by simp [hlt]⟩
      obtain ⟨b1, off1, rfl, hbl1, hcl⟩ := hL1.addr (by omega)
      obtain ⟨a2, c2, t1, hI2⟩ := hcl k x hx
      obtain ⟨g, rfl, hgl⟩ := hF1.own.addr0 (by omega)
      obtain ⟨a3, c3, t2, hI3, _⟩ := hF1.own.cell hx
      have t0 := hF1.cell1
      have hs : ∀ W, Below wr.heap.size wr W → Calls Tryd.prog 19 #[.slice a2 x.length c2, .slice a3 x.length c3] W fun e w' => e = .returned (.bool true) ∧ Below wr.heap.size wr w' := fun W hW => by
        have h := sameInts_any a2 c2 x a3 c3 x W (hI2.below hW) (hI3.below hW)
        rw [M.eqs_self] at h
        exact h.mono fun e w' ⟨e1, n, e2⟩ => ⟨e1, by rw [e2]; exact hW.trans (bDrewN _ _ _)⟩
      have HS := Lib.hid hs
      have hqr := hF1.lt
      clear hs hI2 hI3 hcl hx hF1 hL1
      go_wp2
      go_region_held3 (fun w' => w'.cell? ⟨b1, off1 + k, none⟩ = some (.slice a2 x.length c2) ∧ w'.cell? ⟨q, 1, none⟩ = some (.slice (some ⟨g, 0, none⟩) cs.length c) ∧ w'.cell? ⟨g, k, none⟩ = some (.slice a3 x.length c3))
        (first | (exact ⟨t1, t0, t2⟩) | go_keep)
        (first
        | (go_at_call 19; refine (HS.out _ ((Below.refl _ _).drew)).mono ?_; rintro e w2 ⟨rfl, hb2⟩; have t0 := (hb2.cell (p := ⟨q, 1, none⟩) hqr).trans t0; have t1 := (hb2.cell (p := ⟨b1, off1 + k, none⟩) hbl1).trans t1; have t2 := (hb2.cell (p := ⟨g, k, none⟩) hgl).trans t2; have HB2 := Lib.hid (below_next HB.out hb2); clear hb2))
      all_goals
        go_wp2
        go_roundw
        case rel => exact ⟨k + 1, by omega, by go_num, HB2.out⟩
        case measure => simp [intOf]; omega
    · go_wp2
      go_ret
      exact ⟨rfl, HB.out⟩
end Go.Proofs.YtgpifbhfnbkgoaaDoor
namespace Go.Proofs.YtgpifbhfnbkgoaaDoor
open Go.RowKit

/-- the pairs that the document lists -/
def M.rpairs (a : Int) (l : List Int) : List (List Int) := (l.filter (fun b => !(a == -b))).map (fun b => [-a, -b])
def M.roneTo (zs : List Int) (k : Nat) : List (List Int) := (List.range k).flatMap fun i => M.rpairs (zs.getD i 0) (zs.drop (i + 1))
theorem M.rpairs_norm (a : Int) (l : List Int) : (M.rpairs a l).map M.norm = M.pairs a l := by simp [M.rpairs, M.pairs]
theorem M.roneTo_norm (zs : List Int) (k : Nat) : (M.roneTo zs k).map M.norm = M.oneTo zs k := by
  unfold M.roneTo M.oneTo
  rw [List.map_flatMap]
  congr 1; funext i; exact M.rpairs_norm _ _
theorem M.roneTo_succ {zs : List Int} {k : Nat} {z : Int} (h : zs[k]? = some z) : M.roneTo zs (k + 1) = M.roneTo zs k ++ M.rpairs z (zs.drop (k + 1)) := by
  simp [M.roneTo, List.range_succ, h]
theorem M.rpairs_skip {a : Int} {l : List Int} {j : Nat} {b : Int} (h : l[j]? = some b) (he : (a == -b) = true) : M.rpairs a (l.take (j + 1)) = M.rpairs a (l.take j) := by
  rw [List.take_add_one, h]; simp [M.rpairs, he]
theorem M.rpairs_more {a : Int} {l : List Int} {j : Nat} {b : Int} (h : l[j]? = some b) (he : (a == -b) = false) : M.rpairs a (l.take (j + 1)) = M.rpairs a (l.take j) ++ [[-a, -b]] := by
  rw [List.take_add_one, h]; simp [M.rpairs, he]
theorem M.rone_length (zs : List Int) (k : Nat) (h : k ≤ zs.length) : (M.roneTo zs k).length ≤ k * zs.length := by
  rw [← List.length_map M.norm, M.roneTo_norm]; exact M.oneTo_length zs k h
theorem M.rpairs_length (a : Int) (l : List Int) : (M.rpairs a l).length ≤ l.length := by
  simp only [M.rpairs, List.length_map]; exact List.length_filter_le _ _
theorem M.adj_pair {a b : Int} (ha : M.isLit a = true) (hb : M.isLit b = true) : M.adj (M.norm [-a, -b]) = (a == -b) := by
  have hl : ∀ x ∈ [-a, -b], M.isLit x = true := by
    intro x hx; simp at hx; rcases hx with rfl | rfl
    · rw [M.isLit_neg]; exact ha
    · rw [M.isLit_neg]; exact hb
  have h1 := (M.isLit_iff a).1 ha
  have h2 := (M.isLit_iff b).1 hb
  rw [Bool.eq_iff_iff, M.adj_norm hl]
  simp
  omega
theorem M.roneTo_mem {zs : List Int} {k : Nat} (hl : ∀ z ∈ zs, M.isLit z = true) : ∀ l ∈ M.roneTo zs k, ∃ a b, l = [-a, -b] ∧ M.isLit a = true ∧ M.isLit b = true ∧ (a == -b) = false := by
  intro l h
  simp only [M.roneTo, List.mem_flatMap, List.mem_range, M.rpairs, List.mem_map, List.mem_filter] at h
  obtain ⟨i, hi, b, ⟨hb, hne⟩, rfl⟩ := h
  have hbz : b ∈ zs := List.mem_of_mem_drop hb
  have hil : i < zs.length := by
    rcases Nat.lt_or_ge i zs.length with h' | h'
    · exact h'
    · rw [List.drop_eq_nil_of_le (by omega)] at hb; simp at hb
  have ha : zs.getD i 0 ∈ zs := by
    rw [List.getD_eq_getElem?_getD, List.getElem?_eq_getElem hil]; exact List.getElem_mem _
  exact ⟨_, b, rfl, hl _ ha, hl b hbz, by simpa using hne⟩
theorem M.addC_rone (cs : List (List Int)) : ∀ ls : List (List Int), (∀ l ∈ ls, ∃ a b, l = [-a, -b] ∧ M.isLit a = true ∧ M.isLit b = true ∧ (a == -b) = false) → ls.foldl M.addC cs = cs ++ ls.map M.norm
  | [], _ => by simp
  | l :: ls, h => by
    obtain ⟨a, b, rfl, h1, h2, h3⟩ := h l (by simp)
    have e : M.addC cs [-a, -b] = cs ++ [M.norm [-a, -b]] := by unfold M.addC; rw [M.adj_pair h1 h2, h3]; rfl
    rw [List.foldl_cons, e, M.addC_rone _ ls fun l hl => h l (by simp [hl])]
    simp
theorem rplain_pair {a b : Int} (ha : M.isLit a = true) (hb : M.isLit b = true) (W : World) :
    Calls Tryd.prog 43 #[.slice (some ⟨W.heap.size, 0, none⟩) 2 2] (W.alloc (.cells #[.int .i64 (-a), .int .i64 (-b)] 3)) fun e w' => ∃ v, e = .returned (.tuple #[v, .bool (!(a == -b))]) ∧ Below W.heap.size W w' := by
  have hl : ∀ x ∈ [-a, -b], M.isLit x = true := by
    intro x hx; simp at hx; rcases hx with rfl | rfl
    · rw [M.isLit_neg]; exact ha
    · rw [M.isLit_neg]; exact hb
  have h := rplain_any (some ⟨W.heap.size, 0, none⟩) 2 [-a, -b] (W.alloc (.cells #[.int .i64 (-a), .int .i64 (-b)] 3)) (Ints.two W _ _ (I64.of_lit (hl _ (by simp))) (I64.of_lit (hl _ (by simp))) _) hl (by simp)
  refine h.mono fun e w' ⟨h1, h2⟩ => ?_
  have hb' : Below W.heap.size W w' := below_next (below_alloc (Below.refl _ _) _) h1
  rw [M.adj_pair ha hb] at h2
  rcases h2 with ⟨h3, rfl⟩ | ⟨h3, a', c', rfl, _⟩
  · exact ⟨_, by rw [h3]; rfl, hb'⟩
  · exact ⟨_, by rw [h3]; rfl, hb'⟩
theorem kept_two (W : World) (cur : Array Value) (o' : Obj) (base : Nat) (zs : List Int) : KeptI ((W.alloc (.cells cur 3)).alloc o') base (eff (some ⟨W.heap.size, 0, none⟩) zs) := fun ad e => by
  have e2 := eff_some e
  cases e2
  refine .inr ⟨cur, (0, 0), ?_⟩
  show ((W.heap.push _).push _)[W.heap.size]? = _
  simp only [Array.getElem?_push, Array.size_push]
  rw [if_neg (by omega), if_pos trivial]
theorem rone_below {w wr W w3 : World} {la : Option Addr} {n lc : Nat} (hb : Below w.heap.size w wr) (hW : Below wr.heap.size wr W) (hla : ∀ ad, la = some ad → w.heap.size ≤ ad.block) (hg : W.grownBy w3 (Value.slice la n lc).ownBlock) : Below w.heap.size w w3 := by
  refine (below_next hb hW).grown hg (Nat.le_trans hb.size hW.size) fun k hk => ?_
  cases la with
  | none => simp [Value.ownBlock] at hk
  | some ad => simp [Value.ownBlock] at hk; subst hk; exact hla ad rfl
set_option maxHeartbeats 4000000 in
set_option maxRecDepth 100000 in
theorem rone_ok (base q vars : Nat) (cs : List (List Int)) (a : Option Addr) (c : Nat) (b : Option Addr) (d : Nat) (zs : List Int) (w : World) (hF : Rf w base q vars cs a c) (hb : base ≤ w.heap.size) (hz : Ints w b zs)
    (hown : M.own vars zs = true) (hsm : zs.length ≤ 400) (hcs : cs.length + zs.length * zs.length ≤ 200000) :
    Calls Tryd.prog 16 #[.pointer (some ⟨q, 0, none⟩), .slice b zs.length d] w fun e w' => e = .returned (.int .i64 0) ∧ RPost w base q a vars (cs ++ M.oneC zs) w' := by
  have HL := Lib.hid (M.own_isLit hF.vars hown)
  have ho := rown_any q vars b d zs w hF.cell0 hF.vars hz
  rw [hown] at ho
  have HO := Lib.hid ho
  have HF := Lib.hid hF
  have HZ := Lib.hid hz
  have HBS := Lib.hid hb
  clear ho hF hz hown
  go_enter Tryd.func16, Tryd.ntmps16
  go_wp2_with (go_at_call 37; refine HO.out.mono ?_; rintro e w' ⟨rfl, rfl⟩)
  go_loopw [5, 17] (fun v i wr => ∃ (k n : Nat) (la : Option Addr) (lc : Nat), k ≤ zs.length ∧ i = .int .i64 k ∧ v = .slice la n lc ∧ n = (M.roneTo zs k).length ∧ OwnL NoX wr base la lc (M.roneTo zs k) ∧ (∀ ad, la = some ad → w.heap.size ≤ ad.block) ∧ Below w.heap.size w wr) (fun _ i _ => zs.length - (intOf i).toNat)
  case atStart => exact ⟨0, 0, _, 0, Nat.zero_le _, rfl, rfl, rfl, OwnL.made0 w base HBS.out (fun k h => h.elim), (fun ad e => by cases e; exact Nat.le_refl _), below_alloc (Below.refl _ _) _⟩
  case round =>
    obtain ⟨k, n, la, lc, hk, rfl, rfl, hn, hL, hnew, hbr⟩ := hrel
    have hnb : n ≤ k * zs.length := by rw [hn]; exact M.rone_length zs k hk
    have hkk : k * zs.length ≤ zs.length * zs.length := Nat.mul_le_mul_right _ hk
    have HN := Lib.hid hn
    have HOL := Lib.hid hL
    have HNEW := Lib.hid hnew
    have HB := Lib.hid hbr
    clear hn hL hnew hbr
    by_cases hlt : k < zs.length
    · obtain ⟨z, hzk⟩ : ∃ z, zs[k]? = some z := ⟨zs[k], by simp [hlt]⟩
      have HZK := Lib.hid hzk
      have hlz := HL.out z (List.mem_of_getElem? hzk)
      have hz2 := (M.isLit_iff z).1 hlz
      have hzlo : -20000 ≤ z := hz2.2.1
      have hzhi : z ≤ 20000 := hz2.2.2
      clear hz2 hzk
      go_wp2
      go_loopw [5, 7] (fun v i wr => ∃ (j n : Nat) (la : Option Addr) (lc : Nat), k + 1 ≤ j ∧ j ≤ zs.length ∧ i = .int .i64 j ∧ v = .slice la n lc ∧ n = (M.roneTo zs k ++ M.rpairs z ((zs.drop (k + 1)).take (j - (k + 1)))).length ∧ OwnL NoX wr base la lc (M.roneTo zs k ++ M.rpairs z ((zs.drop (k + 1)).take (j - (k + 1)))) ∧ (∀ ad, la = some ad → w.heap.size ≤ ad.block) ∧ Below w.heap.size w wr) (fun _ i _ => zs.length - (intOf i).toNat)
      case atStart => exact ⟨k + 1, n, la, lc, Nat.le_refl _, by omega, by go_num, rfl, by simpa [M.rpairs] using HN.out, by simpa [M.rpairs] using HOL.out, HNEW.out, HB.out⟩
      case round =>
        obtain ⟨j, n2, la2, lc2, hkj, hj, rfl, rfl, hn2, hL2, hnew2, hbr2⟩ := hrel
        have hn2b : n2 ≤ k * zs.length + zs.length := by
          rw [hn2, List.length_append]
          have h1 := M.rone_length zs k hk
          have h2 := M.rpairs_length z ((zs.drop (k + 1)).take (j - (k + 1)))
          have h3 : ((zs.drop (k + 1)).take (j - (k + 1))).length ≤ zs.length := Nat.le_trans (List.length_take_le' _ _) (by rw [List.length_drop]; omega)
          omega
        have hk1 : k * zs.length + zs.length ≤ zs.length * zs.length := by
          have := Nat.mul_le_mul_right zs.length (show k + 1 ≤ zs.length from hlt)
          rw [Nat.add_mul, Nat.one_mul] at this; exact this
        have HN2 := Lib.hid hn2
        have HOL2 := Lib.hid hL2
        have HNEW2 := Lib.hid hnew2
        have HB2 := Lib.hid hbr2
        clear hn2 hL2 hnew2 hbr2
        by_cases hjl : j < zs.length
        · obtain ⟨bb, off, rfl, hbl, hcl⟩ := (HZ.out.below HB2.out).addr (by omega)
          obtain ⟨y, hyj⟩ : ∃ y, zs[j]? = some y := ⟨zs[j], by simp [hjl]⟩
          have t0 := hcl k z HZK.out
          have t1 := hcl j y hyj
          have hdy : (zs.drop (k + 1))[j - (k + 1)]? = some y := by rw [List.getElem?_drop, show k + 1 + (j - (k + 1)) = j by omega]; exact hyj
          have HDY := Lib.hid hdy
          have hly := HL.out y (List.mem_of_getElem? hyj)
          have hy2 := (M.isLit_iff y).1 hly
          have hylo : -20000 ≤ y := hy2.2.1
          have hyhi : y ≤ 20000 := hy2.2.2
          have hpp := rplain_pair hlz hly
          have hjs : j + 1 - (k + 1) = j - (k + 1) + 1 := by omega
          have HJS := Lib.hid hjs
          have hw1 : IntKind.i64.wrap (-z) = -z := by rw [IntKind.wrap_i64]; omega
          have hw2 : IntKind.i64.wrap (-y) = -y := by rw [IntKind.wrap_i64]; omega
          clear hcl hyj hdy hy2 hjs
          cases hzy : (z == -y)
          · rw [hzy] at hpp
            have HPP := Lib.hid hpp
            clear hpp
            go_wp2
            go_region_held3 (fun w' => w'.cell? ⟨bb, off + k, none⟩ = some (.int .i64 z) ∧ w'.cell? ⟨bb, off + j, none⟩ = some (.int .i64 y))
              (first | (exact ⟨t0, t1⟩) | go_keep)
              (first
              | (go_at_call 43; refine (HPP.out wr.drew).mono ?_; rintro e w2 ⟨v, rfl, hb2⟩; have t0 := (hb2.cell (p := ⟨bb, off + k, none⟩) hbl).trans t0; have t1 := (hb2.cell (p := ⟨bb, off + j, none⟩) hbl).trans t1; have HBN := Lib.hid (below_next ((Below.refl _ _).drew) hb2); clear hb2))
            all_goals
              have hbz2 : base ≤ w2.heap.size := Nat.le_trans (Nat.le_trans HBS.out HB2.out.size) HBN.out.size
              have HO2 := Lib.hid (HOL2.out.below (Nat.le_trans HBS.out HB2.out.size) HBN.out)
              obtain ⟨wp, hwp⟩ : ∃ wp, wp = w2 := ⟨_, rfl⟩
              subst hwp
              go_wp2
              go_region_law
                (first
                | (refine step_append_List1 rfl (.tmp 44) (.tmp 56) rfl base la2 n2 lc2 _ rfl HN2.out.symm (HO2.out.below hbz2 ((((Below.refl _ _).drew).alloc (Nat.le_refl _) _).alloc (by simp) _)) ⟨wp.heap.size + 1, 0, none⟩ (some ⟨wp.heap.size, 0, none⟩) 2 2 [-z, -y] rfl ?_ rfl (Ints.alloc (Ints.two wp.drew _ _ (by constructor <;> omega) (by constructor <;> omega) _) _) (kept_two wp.drew _ _ _ _) (NoX.off _) (by omega) (by simp; omega) (NoX.lt _) ?_; (focus (simp; done)); intro a5 c5 w5 hO5 hg5 hat5; have HO5 := Lib.hid hO5; have HG5 := Lib.hid hg5; have HAT5 := Lib.hid hat5; clear hO5 hg5 hat5))
              all_goals
                go_wp2
                go_roundw
                case rel =>
                  refine ⟨j + 1, n2 + 1, a5, c5, by omega, by omega, by go_num, rfl, ?_, ?_, fun ad e => ?_, rone_below HB2.out (HBN.out.trans (((Below.refl _ _).drew.alloc (Nat.le_refl _) _).alloc (by simp) _ |>.mono HBN.out.size)) HNEW2.out HG5.out⟩
                  · rw [HJS.out, M.rpairs_more HDY.out hzy, ← List.append_assoc, List.length_append, ← HN2.out]; rfl
                  · rw [HJS.out, M.rpairs_more HDY.out hzy, ← List.append_assoc]; exact HO5.out
                  · rcases HAT5.out ad e with ⟨ad', e1, e2⟩ | e1
                    · rw [← e2]; exact HNEW2.out ad' e1
                    · have h1 := HB2.out.size; have h2 := HBN.out.size; simp at e1; omega
                case measure => simp [intOf]; omega
          · rw [hzy] at hpp
            have HPP := Lib.hid hpp
            clear hpp
            go_wp2
            go_region_held3 (fun w' => w'.cell? ⟨bb, off + k, none⟩ = some (.int .i64 z) ∧ w'.cell? ⟨bb, off + j, none⟩ = some (.int .i64 y))
              (first | (exact ⟨t0, t1⟩) | go_keep)
              (first
              | (go_at_call 43; refine (HPP.out wr.drew).mono ?_; rintro e w2 ⟨v, rfl, hb2⟩; have t0 := (hb2.cell (p := ⟨bb, off + k, none⟩) hbl).trans t0; have t1 := (hb2.cell (p := ⟨bb, off + j, none⟩) hbl).trans t1; have HBN := Lib.hid (below_next ((Below.refl _ _).drew) hb2); clear hb2))
            all_goals
              go_wp2
              go_roundw
              case rel => exact ⟨j + 1, n2, la2, lc2, by omega, by omega, by go_num, rfl, by rw [HJS.out, M.rpairs_skip HDY.out hzy]; exact HN2.out, by rw [HJS.out, M.rpairs_skip HDY.out hzy]; exact HOL2.out.below (Nat.le_trans HBS.out HB2.out.size) HBN.out, HNEW2.out, below_next HB2.out HBN.out⟩
              case measure => simp [intOf]; omega
        · go_wp2
          go_roundw
          case rel =>
            have hfull : (zs.drop (k + 1)).take (j - (k + 1)) = zs.drop (k + 1) := List.take_of_length_le (by rw [List.length_drop]; omega)
            have e := M.roneTo_succ HZK.out
            rw [← hfull] at e
            exact ⟨k + 1, n2, la2, lc2, by omega, by go_num, rfl, by rw [e]; exact HN2.out, by rw [e]; exact HOL2.out, HNEW2.out, HB2.out⟩
          case measure => simp [intOf]; omega
    · obtain rfl : k = zs.length := by omega
      have hF2 := HF.out.below HB.out
      have hc1 := hF2.cell1
      have hmem := fun l h => M.roneTo_mem (k := zs.length) HL.out l h
      have hput := rput_any base q vars cs a c la lc (M.roneTo zs zs.length) wr hF2 HOL.out (Nat.le_trans HBS.out HB.out.size) (fun l hl => by
        obtain ⟨x, y, rfl, h1, h2, _⟩ := hmem l hl
        refine ⟨fun u hu => ?_, by simp⟩
        simp at hu; rcases hu with rfl | rfl
        · rw [M.isLit_neg]; exact h1
        · rw [M.isLit_neg]; exact h2) (by rw [← HN.out]; omega)
      rw [M.addC_rone cs _ hmem, M.roneTo_norm, M.oneTo_all, ← HN.out] at hput
      have HPUT := Lib.hid hput
      have hgd : decide ((200000 : Int) - (cs.length : Int) < (n : Int)) = false := by simp; omega
      have hqr := hF2.lt
      clear hF2 hput hmem
      go_wp2_with fail
      refine HPUT.out.mono ?_
      rintro e w3 ⟨rfl, hp⟩
      have HPO := Lib.hid hp
      clear hp
      go_wp2
      go_ret
      exact ⟨rfl, RPost.of_below HB.out HPO.out⟩
theorem rone_bad (base q vars : Nat) (cs : List (List Int)) (a : Option Addr) (c : Nat) (b : Option Addr) (d : Nat) (zs : List Int) (w : World) (hF : Rf w base q vars cs a c) (hz : Ints w b zs) (hown : M.own vars zs = false) :
    Calls Tryd.prog 16 #[.pointer (some ⟨q, 0, none⟩), .slice b zs.length d] w fun e w' => e = .returned (.int .i64 10) ∧ w = w' := by
  have ho := rown_any q vars b d zs w hF.cell0 hF.vars hz
  rw [hown] at ho
  have HO := Lib.hid ho
  clear ho hown
  go_enter Tryd.func16, Tryd.ntmps16
  go_wp2_with (go_at_call 37; refine HO.out.mono ?_; rintro e w' ⟨rfl, rfl⟩)
  go_ret
  exact ⟨rfl, rfl⟩
end Go.Proofs.YtgpifbhfnbkgoaaDoor
namespace Go.Proofs.YtgpifbhfnbkgoaaDoor
open Go.RowKit

/-- append(ls, x) of one list -/
theorem wpList_append_List1 {Z : Nat → Prop} {w : World} {ops : Array Oper} {rest : List Oper} {o : Oper} {act : Act} {Q : Exit → Act → World → Prop} (hgd : o.guard = none) (s x : Operand)
    (ho : o.op = .call { callee := .builtin .append, args := #[s, x], argTypes := #[66, 66] })
    (base : Nat) (a : Option Addr) (n c : Nat) (ls : List (List Int)) (hs : act.eval s = .slice a n c) (hn : ls.length = n) (hown : OwnL Z w base a c ls)
    (ad : Addr) (b : Option Addr) (k d : Nat) (y : List Int) (hx : act.eval x = .slice (some ad) 1 1) (hcell : w.cell? ad = some (.slice b k d)) (hk : y.length = k) (hy : Ints w b y) (hyk : KeptI w base (eff b y)) (hyo : OffX Z (eff b y))
    (hlen : n + 1 ≤ 1000000) (hbase : base ≤ w.heap.size) (hZ : XLt Z w)
    (h : ∀ a' c' w', OwnL Z w' base a' c' (ls ++ [y]) → w.grownBy w' (Value.slice a n c).ownBlock → LiesAt w.heap.size a a' → wpList Tryd.prog ops Q rest (act.put o.dst (.slice a' (n + 1) c')) w') :
    wpList Tryd.prog ops Q (o :: rest) act w := by
  subst hn hk
  obtain ⟨i0, hi, hz0, hz1, hz2⟩ := info_parts Tryd.infoInts
  have hrow := hown.row
  obtain ⟨hoff, vals, hr, hvals⟩ := hown
  have hvl : vals.length = ls.length := by simpa using hr.1
  refine wpList_append_own_at w hgd s x 66 ho base 30 i0 (.slice none 0 0) 1 24 Tryd.underlying66 hi hz0 hz1 hz2 rfl (by decide) _ _ _ hs hr ad 1 1 [.slice b y.length d] hx rfl ?_ ?_ ?_ ?_ hbase ?_
  · intro j u hj
    match j, hj with
    | 0, hj => simp at hj; subst hj; exact hcell
  · intro u hu; simp at hu; subst hu; rfl
  · unfold maxLen; omega
  · omega
  · intro v' w' h1 h2 _ h3
    have hkp : ∀ {b' : Option Addr} {m' : List Int}, Ints w b' m' → KeptI w base (eff b' m') → Ints w' b' m' ∧ KeptI w' base (eff b' m') := by
      intro b' m' h4 h5
      have key : ∀ ad, eff b' m' = some ad → w'.heap[ad.block]? = w.heap[ad.block]? := fun ad e => h2.block _ (h5.lt hbase ad e) fun e2 => by
        cases a with
        | none => simp [Value.ownBlock] at e2
        | some ad2 =>
          simp [Value.ownBlock] at e2
          obtain ⟨hb2, cur, hc⟩ := hrow ad2 rfl
          rcases h5 ad e with h' | ⟨cur', m, hc'⟩
          · omega
          · rw [e2, hc] at hc'; cases hc'
      exact ⟨h4.sameE h2.size key, h5.same key⟩
    have : ∃ a' c', v' = .slice a' (ls.length + 1) c' := by
      rcases h1.2 with ⟨_, hn⟩ | ⟨g, cap, cur, e, _⟩
      · omega
      · exact ⟨_, _, e⟩
    obtain ⟨a', c', rfl⟩ := this
    refine h a' c' w' ⟨(LiesAt.of_ownBlock h3).off hoff hZ (Nat.le_refl _), vals ++ [.slice b y.length d], by simpa using h1, fun i u hu => ?_⟩ h2 (LiesAt.of_ownBlock h3)
    by_cases hil : i < ls.length
    · rw [List.getElem?_append_left hil] at hu
      obtain ⟨a1, c1, e1, e2, e3, e4⟩ := hvals i u hu
      exact ⟨a1, c1, by rw [List.getElem?_append_left (by omega)]; exact e1, (hkp e2 e3).1, (hkp e2 e3).2, e4⟩
    · have hil' : i = ls.length := by
        rcases Nat.lt_or_ge i (ls ++ [y]).length with h' | h'
        · simp at h'; omega
        · rw [List.getElem?_eq_none h'] at hu; cases hu
      subst hil'
      rw [List.getElem?_append_right (Nat.le_refl _)] at hu
      simp at hu; subst hu
      exact ⟨b, d, by rw [List.getElem?_append_right (by omega)]; simp [hvl], (hkp hy hyk).1, (hkp hy hyk).2, hyo⟩

/-- the gate's clauses so far, and its last one -/
structure GB (w wr : World) (base : Nat) (la aL : Option Addr) (lc cL : Nat) (rows : List (List Int)) (last : List Int) : Prop where
  rows : OwnL (Zof aL) wr base la lc rows
  last : OwnI wr w.heap.size aL cL last
  new : ∀ ad, la = some ad → w.heap.size ≤ ad.block
  below : Below w.heap.size w wr
theorem GB.zlt {w wr : World} {base : Nat} {la aL : Option Addr} {lc cL : Nat} {rows : List (List Int)} {last : List Int} (h : GB w wr base la aL lc cL rows last) : XLt (Zof aL) wr := by
  rintro k ⟨ad, e, rfl⟩
  rcases h.last.parts with ⟨e1, _⟩ | ⟨g, cur, e1, _, hlt, _⟩
  · rw [e] at e1; cases e1
  · rw [e] at e1; cases e1; exact hlt
theorem GB.start (w : World) (base : Nat) (hb : base ≤ w.heap.size) : GB w ((w.alloc (.cells #[] 30)).alloc (.cells #[] 3)) base (some ⟨w.heap.size, 0, none⟩) (some ⟨w.heap.size + 1, 0, none⟩) 0 0 [] [] := by
  have hL := OwnL.made0 (Z := NoX) w base hb (fun _ h => h.elim)
  have hI := OwnI.made0 (w.alloc (.cells #[] 30)) w.heap.size (by simp)
  have e : (w.alloc (.cells #[] 30)).heap.size = w.heap.size + 1 := by simp
  rw [e] at hI
  refine ⟨?_, hI, fun ad e => by cases e; exact Nat.le_refl _, ((Below.refl _ _).alloc (Nat.le_refl _) _).alloc (by simp) _⟩
  refine hL.turn (by simp; omega) (by simp) (fun k hk _ _ => Below.heap_alloc _ _ k hk) ?_
  rintro k ⟨ad, e, rfl⟩
  cases e; exact .inr (by simp)
theorem GB.laid {w wr : World} {base : Nat} {la aL : Option Addr} {lc cL : Nat} {rows : List (List Int)} {last : List Int} (h : GB w wr base la aL lc cL rows last) (hb : base ≤ w.heap.size) (o : Obj) : GB w (wr.alloc o) base la aL lc cL rows last :=
  ⟨h.rows.below (Nat.le_trans hb h.below.size) (below_alloc (Below.refl _ _) _), h.last.alloc o, h.new, h.below.alloc h.below.size o⟩
theorem GB.rowPut {w W w3 : World} {base n : Nat} {la a5 aL : Option Addr} {lc c5 cL : Nat} {rows rows' : List (List Int)} {last : List Int} (h : GB w W base la aL lc cL rows last)
    (ho : OwnL (Zof aL) w3 base a5 c5 rows') (hg : W.grownBy w3 (Value.slice la n lc).ownBlock) (hat : LiesAt W.heap.size la a5) : GB w w3 base a5 aL c5 cL rows' last := by
  refine ⟨ho, h.last.kept fun g cur hlt hc => hg.block g hlt fun e => ?_, fun ad e => ?_, (h.below).grown hg h.below.size fun k hk => ?_⟩
  · cases la with
    | none => simp [Value.ownBlock] at e
    | some ad =>
      simp [Value.ownBlock] at e
      obtain ⟨_, cur', hc'⟩ := h.rows.row ad rfl
      rw [← e, hc] at hc'; cases hc'
  · rcases hat ad e with ⟨ad', e1, e2⟩ | e1
    · rw [← e2]; exact h.new ad' e1
    · rw [e1]; exact h.below.size
  · cases la with
    | none => simp [Value.ownBlock] at hk
    | some ad => simp [Value.ownBlock] at hk; subst hk; exact h.new ad rfl
theorem GB.lastPut {w W w3 : World} {base n : Nat} {la aL a5 : Option Addr} {lc cL c5 : Nat} {rows : List (List Int)} {last last' : List Int} (h : GB w W base la aL lc cL rows last) (hb : base ≤ w.heap.size)
    (ho : OwnI w3 w.heap.size a5 c5 last') (hg : W.grownBy w3 (Value.slice aL n cL).ownBlock) (hat : LiesAt W.heap.size aL a5) : GB w w3 base la a5 lc c5 rows last' := by
  refine ⟨h.rows.turn (Nat.le_trans hb h.below.size) hg.size (fun k hk hz _ => hg.block k hk fun e => hz ?_) ?_, ho, h.new, (h.below).grown hg h.below.size fun k hk => ownBlock_ge h.last k _ hk⟩
  · cases aL with
    | none => simp [Value.ownBlock] at e
    | some ad => simp [Value.ownBlock] at e; exact ⟨ad, rfl, e.symm⟩
  · rintro k ⟨ad, e, rfl⟩
    rcases hat ad e with ⟨ad', e1, e2⟩ | e1
    · exact .inl ⟨ad', e1, e2⟩
    · exact .inr (by omega)
/-- the last clause is put to the others -/
theorem GB.close {w W w3 : World} {base n : Nat} {la a5 aL : Option Addr} {lc c5 cL : Nat} {rows rows' : List (List Int)} {last : List Int} (h : GB w W base la aL lc cL rows last) (hg : W.grownBy w3 (Value.slice la n lc).ownBlock) (ho : OwnL NoX w3 base a5 c5 rows') : OwnL NoX w3 base a5 c5 rows' ∧ Below w.heap.size w w3 :=
  ⟨ho, (h.below).grown hg h.below.size fun k hk => by
    cases la with
    | none => simp [Value.ownBlock] at hk
    | some ad => simp [Value.ownBlock] at hk; subst hk; exact h.new ad rfl⟩
theorem OwnL.free {Z : Nat → Prop} {w : World} {base : Nat} {a : Option Addr} {c : Nat} {ls : List (List Int)} (h : OwnL Z w base a c ls) (hb : base ≤ w.heap.size) : OwnL NoX w base a c ls :=
  h.turn hb (Nat.le_refl _) (fun _ _ _ _ => rfl) (fun _ h => h.elim)
/-- what a gate hands back: its variable, or that there are too many -/
def RGateRes (w : World) (base q vars : Nat) (cs : List (List Int)) (a : Option Addr) (rows : List (List Int)) (e : Ending) (w' : World) : Prop :=
  (vars < 20000 ∧ e = .returned (.tuple #[.int .i64 ((vars : Int) + 1), .int .i64 0]) ∧ RPost w base q a (vars + 1) (rows.foldl M.addC cs) w') ∨
  (¬ vars < 20000 ∧ e = .returned (.tuple #[.int .i64 0, .int .i64 12]) ∧ Below w.heap.size w w')
theorem Rf.inc {w : World} {base q vars : Nat} {cs : List (List Int)} {a : Option Addr} {c : Nat} (h : Rf w base q vars cs a c) (hv : vars < 20000) :
    Rf (w.setCell ⟨q, 0, none⟩ (.int .i64 ((vars : Int) + 1))) base q (vars + 1) cs a c ∧ KeepsF q a w (w.setCell ⟨q, 0, none⟩ (.int .i64 ((vars : Int) + 1))) := by
  refine h.setV1 ⟨rfl, rfl, rfl, by simp [World.setCell], fun k hk hkp => Below.heap_setCell _ _ _ _ hkp⟩ ?_ (by omega)
  simp [World.setCell, Array.getElem?_modify, h.blk]
/-- what is left to do when the clauses are listed -/
theorem rgate_put {w wx : World} {base q vars n : Nat} {cs : List (List Int)} {a : Option Addr} {c : Nat} {la : Option Addr} {lc : Nat} {rows : List (List Int)} (hF : Rf w base q vars cs a c) (hb : base ≤ w.heap.size) (hbx : Below w.heap.size w wx) (hL : OwnL NoX wx base la lc rows) (hn : rows.length = n) (hv : vars < 20000)
    (hl : ∀ l ∈ rows, (∀ x ∈ l, M.isLit x = true) ∧ l.length ≤ 1000000) (hsm : cs.length + n ≤ 1000000) :
    Calls Tryd.prog 38 #[.pointer (some ⟨q, 0, none⟩), .slice la n lc] (wx.setCell ⟨q, 0, none⟩ (.int .i64 ((vars : Int) + 1))) fun e w' => e = .returned (.tuple #[]) ∧ RPost w base q a (vars + 1) (rows.foldl M.addC cs) w' := by
  subst hn
  have hFx := hF.below hbx
  obtain ⟨i1, i2⟩ := hFx.inc hv
  have hbx2 := Nat.le_trans hb hbx.size
  have h := rput_any base q (vars + 1) cs a c la lc rows _ i1 (hL.keepsF hFx i2 hbx2) (by simpa [World.setCell] using hbx2) hl hsm
  exact h.mono fun e w' ⟨h1, h2⟩ => ⟨h1, RPost.of_below hbx (RPost.trans i2 (LiesH.refl _ _) h2)⟩

theorem ints_one3 (w : World) (o o' : Obj) (z : Int) (hz : I64 z) : Ints (((w.alloc o).alloc o').alloc (.cells #[.int .i64 z] 3)) (some ⟨w.heap.size + 1 + 1, 0, none⟩) [z] := by
  have h := Ints.one ((w.alloc o).alloc o') z hz 3
  have e : ((w.alloc o).alloc o').heap.size = w.heap.size + 1 + 1 := by simp
  rwa [e] at h
theorem off_new {Z : Nat → Prop} {w : World} (h : XLt Z w) (zs : List Int) : OffX Z (eff (some ⟨w.heap.size, 0, none⟩) zs) := fun ad e hz => by
  have := eff_some e; cases this; have := h _ hz; simp at this
theorem kept_own {w : World} {base base' c : Nat} {a : Option Addr} {ys zs : List Int} (h : OwnI w base a c ys) : KeptI w base' (eff a zs) := fun ad e => by
  have e2 := eff_some e
  obtain ⟨cur, m, hc⟩ := h.tag ad e2
  exact .inr ⟨cur, m, hc⟩
theorem rgate_litsand {vars : Nat} {zs : List Int} (hl : ∀ x ∈ zs, M.isLit x = true) (hv : vars < 20000) (hs : zs.length ≤ 1000) : ∀ l ∈ M.andC ((vars : Int) + 1) zs, (∀ x ∈ l, M.isLit x = true) ∧ l.length ≤ 1000000 := by
  intro l h
  refine ⟨fun x hx => M.gateC_lits (kind := 1) (g := (vars : Int) + 1) (l := zs) (by rw [M.isLit_iff]; omega) hl (by omega) (by omega) l h x hx, ?_⟩
  simp only [M.andC, List.mem_append, List.mem_map, List.mem_singleton] at h
  rcases h with ⟨y, _, rfl⟩ | rfl
  · simp
  · simp; omega
theorem rgate_litsor {vars : Nat} {zs : List Int} (hl : ∀ x ∈ zs, M.isLit x = true) (hv : vars < 20000) (hs : zs.length ≤ 1000) : ∀ l ∈ M.orC ((vars : Int) + 1) zs, (∀ x ∈ l, M.isLit x = true) ∧ l.length ≤ 1000000 := by
  intro l h
  refine ⟨fun x hx => M.gateC_lits (kind := 2) (g := (vars : Int) + 1) (l := zs) (by rw [M.isLit_iff]; omega) hl (by omega) (by omega) l h x hx, ?_⟩
  simp only [M.orC, List.mem_append, List.mem_map, List.mem_singleton] at h
  rcases h with ⟨y, _, rfl⟩ | rfl
  · simp
  · simp; omega
theorem rgate_lastand {vars : Nat} {zs : List Int} (hl : ∀ x ∈ zs, M.isLit x = true) (hv : vars ≤ 20000) : ∀ z ∈ ((vars : Int) + 1) :: zs.map (fun x => -x), I64 z := by
  intro z hz
  rcases List.mem_cons.1 hz with rfl | hz
  · constructor <;> omega
  · obtain ⟨x, hx, rfl⟩ := List.mem_map.1 hz
    have := (M.isLit_iff x).1 (hl x hx)
    constructor <;> omega
theorem rgate_lastor {vars : Nat} {zs : List Int} (hl : ∀ x ∈ zs, M.isLit x = true) (hv : vars ≤ 20000) : ∀ z ∈ (-((vars : Int) + 1)) :: zs.map (fun x => x), I64 z := by
  intro z hz
  rcases List.mem_cons.1 hz with rfl | hz
  · constructor <;> omega
  · obtain ⟨x, hx, rfl⟩ := List.mem_map.1 hz
    have := (M.isLit_iff x).1 (hl x hx)
    constructor <;> omega
set_option maxHeartbeats 4000000 in
set_option maxRecDepth 100000 in
theorem rgateand_any (base q vars : Nat) (cs : List (List Int)) (a : Option Addr) (c : Nat) (b : Option Addr) (d : Nat) (zs : List Int) (w : World) (hF : Rf w base q vars cs a c) (hb : base ≤ w.heap.size) (hz : Ints w b zs) (hown : M.own vars zs = true) (hs : zs.length ≤ 1000) (hsm : cs.length + 1001 ≤ 200000) :
    Calls Tryd.prog 11 #[.pointer (some ⟨q, 0, none⟩), .int .i64 1, .slice b zs.length d] w (RGateRes w base q vars cs a (M.andC ((vars : Int) + 1) zs)) := by
  have hvv := hF.vars
  have HLI := Lib.hid (M.own_isLit hvv hown)
  have ho := rown_any q vars b d zs w hF.cell0 hvv hz
  rw [hown] at ho
  have HO := Lib.hid ho
  have h0 := hF.cell0
  have HF := Lib.hid hF
  have HZ := Lib.hid hz
  have HBS := Lib.hid hb
  have HPUT0 := Lib.hid trivial
  clear ho hF hz hown
  go_enter Tryd.func11, Tryd.ntmps11
  have HG0 := Lib.hid (GB.start w base HBS.out)
  go_wp2_with (first
    | (go_at_call 37; refine HO.out.mono ?_; rintro e w' ⟨rfl, rfl⟩)
    | (at_builtin; refine wpList_append_IntsAt rfl (.tmp 29) (.tmp 31) 30 rfl Tryd.underlying30 w.heap.size _ _ _ [] rfl rfl ((HG0.out.laid HBS.out _).last) _ _ _ [((vars : Int) + 1)] rfl rfl (ints_one3 _ _ _ _ (by constructor <;> omega)) (fun h => by cases h) (by omega) (by simp; omega) ?_; intro a2 c2 w2 hown2 hg2 hat2; have HG2 := Lib.hid ((HG0.out.laid HBS.out _).lastPut HBS.out hown2 hg2 hat2); clear hown2 hg2 hat2))
  go_loopw [9, 10, 12, 35] (fun v u _ i wr => ∃ (k : Nat) (la aL : Option Addr) (lc cL : Nat), k ≤ zs.length ∧ i = .int .i64 k ∧ v = .slice la k lc ∧ u = .slice aL (k + 1) cL ∧ GB w wr base la aL lc cL ((zs.take k).map fun x => [-((vars : Int) + 1), x]) (((vars : Int) + 1) :: (zs.take k).map fun x => -x)) (fun _ _ _ i _ => zs.length - (intOf i).toNat)
  case atStart => exact ⟨0, _, a2, 0, c2, Nat.zero_le _, rfl, rfl, rfl, by simpa using HG2.out⟩
  case round =>
    obtain ⟨k, la, aL, lc, cL, hk, rfl, rfl, rfl, hG⟩ := hrel
    have HG := Lib.hid hG
    have hbr : base ≤ wr.heap.size := Nat.le_trans HBS.out hG.below.size
    have hszr := hG.below.size
    clear hG
    by_cases hlt : k < zs.length
    · obtain ⟨bb, off, rfl, hbl, hcl⟩ := (HZ.out.below HG.out.below).addr (by omega)
      obtain ⟨x, hxk⟩ : ∃ x, zs[k]? = some x := ⟨zs[k], by simp [hlt]⟩
      have hcell := hcl k x hxk
      have hxl := (M.isLit_iff x).1 (HLI.out x (List.mem_of_getElem? hxk))
      have hx1 : -20000 ≤ x := hxl.2.1
      have hx2 : x ≤ 20000 := hxl.2.2
      have HX := Lib.hid hxk
      clear hcl hxk hxl
      go_wp2_with (first
        | (at_builtin; refine wpList_append_List1 rfl (.tmp 39) (.tmp 44) rfl base _ _ _ ((zs.take k).map fun x => [-((vars : Int) + 1), x]) rfl (by simp; omega) ((HG.out.laid HBS.out _).laid HBS.out _).rows ⟨wr.heap.size + 1, 0, none⟩ (some ⟨wr.heap.size, 0, none⟩) 2 2 [-((vars : Int) + 1), x] rfl (by simp) rfl (Ints.alloc (Ints.two wr _ _ (by constructor <;> omega) (by constructor <;> omega) _) _) (kept_two wr _ _ _ _) (off_new HG.out.zlt _) (by omega) (by simp; omega) ((HG.out.laid HBS.out _).laid HBS.out _).zlt ?_; intro a5 c5 w5 hO5 hg5 hat5; have HG5 := Lib.hid (((HG.out.laid HBS.out _).laid HBS.out _).rowPut hO5 hg5 hat5); have hsz5 := HG5.out.below.size; clear hO5 hg5 hat5)
        | (at_builtin; refine wpList_append_IntsAt rfl (.tmp 46) (.tmp 49) 30 rfl Tryd.underlying30 w.heap.size _ _ _ (((vars : Int) + 1) :: (zs.take k).map fun x => -x) rfl (by simp; omega) ((HG5.out.laid HBS.out _).last) _ _ _ [-x] rfl rfl (Ints.one _ _ (by constructor <;> omega) _) (fun h => by cases h) (by omega) (by simp; omega) ?_; intro a6 c6 w6 hown6 hg6 hat6; have HG6 := Lib.hid ((HG5.out.laid HBS.out _).lastPut HBS.out hown6 hg6 hat6); clear hown6 hg6 hat6))
      go_roundw
      case rel =>
        refine ⟨k + 1, a5, a6, c5, c6, by omega, by go_num, rfl, rfl, ?_⟩
        have h := HG6.out
        rw [List.take_add_one, HX.out]
        simpa using h
      case measure => simp [intOf]; omega
    · obtain rfl : k = zs.length := by omega
      have hG := HG.out
      rw [List.take_length] at hG
      have HG1 := Lib.hid hG
      clear hG HG
      have hrows : (zs.map fun x => [-((vars : Int) + 1), x]) ++ [((vars : Int) + 1) :: zs.map fun x => -x] = M.andC ((vars : Int) + 1) zs := by simp [M.andC]
      have hlen : (M.andC ((vars : Int) + 1) zs).length = zs.length + 1 := by simp [M.andC]
      have HROWS := Lib.hid hrows
      have HLEN := Lib.hid hlen
      clear hrows hlen
      by_cases hv : vars < 20000
      · have hd1 : decide ((20000 : Int) < (vars : Int) + 1) = false := by simp; omega
        have hgd : decide ((200000 : Int) - (cs.length : Int) < (zs.length : Int) + 1) = false := by simp; omega
        have HV := Lib.hid hv
        clear hv
        go_wp2_with (first
          | (at_builtin; refine wpList_append_List1 rfl (.tmp 52) (.tmp 54) rfl base _ _ _ (zs.map fun x => [-((vars : Int) + 1), x]) rfl (by simp) ((HG1.out.laid HBS.out _).rows.free (by simp; omega)) ⟨wr.heap.size, 0, none⟩ aL (zs.length + 1) cL (((vars : Int) + 1) :: zs.map fun x => -x) rfl (by simp) (by simp) ((HG1.out.last.ints (rgate_lastand HLI.out hvv) (by simp; omega)).alloc _) (kept_own (HG1.out.last.alloc _)) (NoX.off _) (by omega) (by simp; omega) (NoX.lt _) ?_; intro a7 c7 w7 hO7 hg7 hat7; obtain ⟨hO7, hB7⟩ := (HG1.out.laid HBS.out _).close hg7 hO7; rw [HROWS.out] at hO7; have hc1 := (HF.out.below hB7).cell1; have hc0 := (HF.out.below hB7).cell0; have hf0 := (HF.out.below hB7).frozen 0; have HPUT := Lib.hid (rgate_put HF.out HBS.out hB7 hO7 HLEN.out HV.out (rgate_litsand HLI.out HV.out hs) (by omega)); clear hO7 hg7 hat7 hB7)
          | (go_at_call 38; refine HPUT.out.mono ?_; rintro e w8 ⟨rfl, hp⟩; have HPO := Lib.hid hp; clear hp))
        go_ret2
        exact .inl ⟨HV.out, rfl, HPO.out⟩
      · have hd1 : decide ((20000 : Int) < (vars : Int) + 1) = true := by simp; omega
        have HV := Lib.hid hv
        clear hv
        go_wp2_with (at_builtin; refine wpList_append_List1 rfl (.tmp 52) (.tmp 54) rfl base _ _ _ (zs.map fun x => [-((vars : Int) + 1), x]) rfl (by simp) ((HG1.out.laid HBS.out _).rows.free (by simp; omega)) ⟨wr.heap.size, 0, none⟩ aL (zs.length + 1) cL (((vars : Int) + 1) :: zs.map fun x => -x) rfl (by simp) (by simp) ((HG1.out.last.ints (rgate_lastand HLI.out hvv) (by simp; omega)).alloc _) (kept_own (HG1.out.last.alloc _)) (NoX.off _) (by omega) (by simp; omega) (NoX.lt _) ?_; intro a7 c7 w7 hO7 hg7 hat7; obtain ⟨hO7, hB7⟩ := (HG1.out.laid HBS.out _).close hg7 hO7; have HBX := Lib.hid hB7; clear hO7 hg7 hat7 hB7)
        go_ret2
        exact .inr ⟨HV.out, rfl, HBX.out⟩
set_option maxHeartbeats 4000000 in
set_option maxRecDepth 100000 in
theorem rgateor_any (base q vars : Nat) (cs : List (List Int)) (a : Option Addr) (c : Nat) (b : Option Addr) (d : Nat) (zs : List Int) (w : World) (hF : Rf w base q vars cs a c) (hb : base ≤ w.heap.size) (hz : Ints w b zs) (hown : M.own vars zs = true) (hs : zs.length ≤ 1000) (hsm : cs.length + 1001 ≤ 200000) :
    Calls Tryd.prog 11 #[.pointer (some ⟨q, 0, none⟩), .int .i64 2, .slice b zs.length d] w (RGateRes w base q vars cs a (M.orC ((vars : Int) + 1) zs)) := by
  have hvv := hF.vars
  have HLI := Lib.hid (M.own_isLit hvv hown)
  have ho := rown_any q vars b d zs w hF.cell0 hvv hz
  rw [hown] at ho
  have HO := Lib.hid ho
  have h0 := hF.cell0
  have HF := Lib.hid hF
  have HZ := Lib.hid hz
  have HBS := Lib.hid hb
  have HPUT0 := Lib.hid trivial
  clear ho hF hz hown
  go_enter Tryd.func11, Tryd.ntmps11
  have HG0 := Lib.hid (GB.start w base HBS.out)
  go_wp2_with (first
    | (go_at_call 37; refine HO.out.mono ?_; rintro e w' ⟨rfl, rfl⟩)
    | (at_builtin; refine wpList_append_IntsAt rfl (.tmp 58) (.tmp 61) 30 rfl Tryd.underlying30 w.heap.size _ _ _ [] rfl rfl ((HG0.out.laid HBS.out _).last) _ _ _ [(-((vars : Int) + 1))] rfl rfl (ints_one3 _ _ _ _ (by constructor <;> omega)) (fun h => by cases h) (by omega) (by simp; omega) ?_; intro a2 c2 w2 hown2 hg2 hat2; have HG2 := Lib.hid ((HG0.out.laid HBS.out _).lastPut HBS.out hown2 hg2 hat2); clear hown2 hg2 hat2))
  go_loopw [9, 10, 14, 65] (fun v u _ i wr => ∃ (k : Nat) (la aL : Option Addr) (lc cL : Nat), k ≤ zs.length ∧ i = .int .i64 k ∧ v = .slice la k lc ∧ u = .slice aL (k + 1) cL ∧ GB w wr base la aL lc cL ((zs.take k).map fun x => [((vars : Int) + 1), -x]) ((-((vars : Int) + 1)) :: (zs.take k).map fun x => x)) (fun _ _ _ i _ => zs.length - (intOf i).toNat)
  case atStart => exact ⟨0, _, a2, 0, c2, Nat.zero_le _, rfl, rfl, rfl, by simpa using HG2.out⟩
  case round =>
    obtain ⟨k, la, aL, lc, cL, hk, rfl, rfl, rfl, hG⟩ := hrel
    have HG := Lib.hid hG
    have hbr : base ≤ wr.heap.size := Nat.le_trans HBS.out hG.below.size
    have hszr := hG.below.size
    clear hG
    by_cases hlt : k < zs.length
    · obtain ⟨bb, off, rfl, hbl, hcl⟩ := (HZ.out.below HG.out.below).addr (by omega)
      obtain ⟨x, hxk⟩ : ∃ x, zs[k]? = some x := ⟨zs[k], by simp [hlt]⟩
      have hcell := hcl k x hxk
      have hxl := (M.isLit_iff x).1 (HLI.out x (List.mem_of_getElem? hxk))
      have hx1 : -20000 ≤ x := hxl.2.1
      have hx2 : x ≤ 20000 := hxl.2.2
      have HX := Lib.hid hxk
      clear hcl hxk hxl
      go_wp2_with (first
        | (at_builtin; refine wpList_append_List1 rfl (.tmp 69) (.tmp 74) rfl base _ _ _ ((zs.take k).map fun x => [((vars : Int) + 1), -x]) rfl (by simp; omega) ((HG.out.laid HBS.out _).laid HBS.out _).rows ⟨wr.heap.size + 1, 0, none⟩ (some ⟨wr.heap.size, 0, none⟩) 2 2 [((vars : Int) + 1), -x] rfl (by simp) rfl (Ints.alloc (Ints.two wr _ _ (by constructor <;> omega) (by constructor <;> omega) _) _) (kept_two wr _ _ _ _) (off_new HG.out.zlt _) (by omega) (by simp; omega) ((HG.out.laid HBS.out _).laid HBS.out _).zlt ?_; intro a5 c5 w5 hO5 hg5 hat5; have HG5 := Lib.hid (((HG.out.laid HBS.out _).laid HBS.out _).rowPut hO5 hg5 hat5); have hsz5 := HG5.out.below.size; clear hO5 hg5 hat5)
        | (at_builtin; refine wpList_append_IntsAt rfl (.tmp 76) (.tmp 78) 30 rfl Tryd.underlying30 w.heap.size _ _ _ ((-((vars : Int) + 1)) :: (zs.take k).map fun x => x) rfl (by simp; omega) ((HG5.out.laid HBS.out _).last) _ _ _ [x] rfl rfl (Ints.one _ _ (by constructor <;> omega) _) (fun h => by cases h) (by omega) (by simp; omega) ?_; intro a6 c6 w6 hown6 hg6 hat6; have HG6 := Lib.hid ((HG5.out.laid HBS.out _).lastPut HBS.out hown6 hg6 hat6); clear hown6 hg6 hat6))
      go_roundw
      case rel =>
        refine ⟨k + 1, a5, a6, c5, c6, by omega, by go_num, rfl, rfl, ?_⟩
        have h := HG6.out
        rw [List.take_add_one, HX.out]
        simpa using h
      case measure => simp [intOf]; omega
    · obtain rfl : k = zs.length := by omega
      have hG := HG.out
      rw [List.take_length] at hG
      have HG1 := Lib.hid hG
      clear hG HG
      have hrows : (zs.map fun x => [((vars : Int) + 1), -x]) ++ [(-((vars : Int) + 1)) :: zs.map fun x => x] = M.orC ((vars : Int) + 1) zs := by simp [M.orC]
      have hlen : (M.orC ((vars : Int) + 1) zs).length = zs.length + 1 := by simp [M.orC]
      have HROWS := Lib.hid hrows
      have HLEN := Lib.hid hlen
      clear hrows hlen
      by_cases hv : vars < 20000
      · have hd1 : decide ((20000 : Int) < (vars : Int) + 1) = false := by simp; omega
        have hgd : decide ((200000 : Int) - (cs.length : Int) < (zs.length : Int) + 1) = false := by simp; omega
        have HV := Lib.hid hv
        clear hv
        go_wp2_with (first
          | (at_builtin; refine wpList_append_List1 rfl (.tmp 81) (.tmp 83) rfl base _ _ _ (zs.map fun x => [((vars : Int) + 1), -x]) rfl (by simp) ((HG1.out.laid HBS.out _).rows.free (by simp; omega)) ⟨wr.heap.size, 0, none⟩ aL (zs.length + 1) cL ((-((vars : Int) + 1)) :: zs.map fun x => x) rfl (by simp) (by simp) ((HG1.out.last.ints (rgate_lastor HLI.out hvv) (by simp; omega)).alloc _) (kept_own (HG1.out.last.alloc _)) (NoX.off _) (by omega) (by simp; omega) (NoX.lt _) ?_; intro a7 c7 w7 hO7 hg7 hat7; obtain ⟨hO7, hB7⟩ := (HG1.out.laid HBS.out _).close hg7 hO7; rw [HROWS.out] at hO7; have hc1 := (HF.out.below hB7).cell1; have hc0 := (HF.out.below hB7).cell0; have hf0 := (HF.out.below hB7).frozen 0; have HPUT := Lib.hid (rgate_put HF.out HBS.out hB7 hO7 HLEN.out HV.out (rgate_litsor HLI.out HV.out hs) (by omega)); clear hO7 hg7 hat7 hB7)
          | (go_at_call 38; refine HPUT.out.mono ?_; rintro e w8 ⟨rfl, hp⟩; have HPO := Lib.hid hp; clear hp))
        go_ret2
        exact .inl ⟨HV.out, rfl, HPO.out⟩
      · have hd1 : decide ((20000 : Int) < (vars : Int) + 1) = true := by simp; omega
        have HV := Lib.hid hv
        clear hv
        go_wp2_with (at_builtin; refine wpList_append_List1 rfl (.tmp 81) (.tmp 83) rfl base _ _ _ (zs.map fun x => [((vars : Int) + 1), -x]) rfl (by simp) ((HG1.out.laid HBS.out _).rows.free (by simp; omega)) ⟨wr.heap.size, 0, none⟩ aL (zs.length + 1) cL ((-((vars : Int) + 1)) :: zs.map fun x => x) rfl (by simp) (by simp) ((HG1.out.last.ints (rgate_lastor HLI.out hvv) (by simp; omega)).alloc _) (kept_own (HG1.out.last.alloc _)) (NoX.off _) (by omega) (by simp; omega) (NoX.lt _) ?_; intro a7 c7 w7 hO7 hg7 hat7; obtain ⟨hO7, hB7⟩ := (HG1.out.laid HBS.out _).close hg7 hO7; have HBX := Lib.hid hB7; clear hO7 hg7 hat7 hB7)
        go_ret2
        exact .inr ⟨HV.out, rfl, HBX.out⟩
end Go.Proofs.YtgpifbhfnbkgoaaDoor
namespace Go.Proofs.YtgpifbhfnbkgoaaDoor
open Go Go.RowKit

namespace Al
/-- operations by number and slot; which have come up, and what they left -/
def fill : List (Nat × Nat) → List (Option Value) → Act → Act
  | (_, d) :: A, some v :: vs, a => fill A vs (a.put (some d) v)
  | _ :: A, none :: vs, a => fill A vs a
  | _, _, a => a
def mark : List (Nat × Nat) → List Bool → Array Bool → Array Bool
  | (i, _) :: A, true :: bs, l => mark A bs (l.setIfInBounds i true)
  | _ :: A, false :: bs, l => mark A bs l
  | _, _, l => l
theorem fill_put : ∀ (A : List (Nat × Nat)) (vs : List (Option Value)) (a : Act) (d : Nat) (v : Value), (∀ p ∈ A, p.2 ≠ d) → fill A vs (a.put (some d) v) = (fill A vs a).put (some d) v
  | [], _, _, _, _, _ => by simp [fill]
  | _ :: _, [], _, _, _, _ => by simp [fill]
  | (i, e) :: A, some u :: vs, a, d, v, h => by
    have hne : e ≠ d := h (i, e) (by simp)
    simp only [fill]
    rw [← fill_put A vs _ d v (fun p hp => h p (by simp [hp])), Act.put_comm a v u (fun x hx => by cases hx; simpa using hne)]
  | _ :: A, none :: vs, a, d, v, h => by
    simp only [fill]
    exact fill_put A vs a d v (fun p hp => h p (by simp [hp]))
theorem fill_set : ∀ (A : List (Nat × Nat)) (vs : List (Option Value)) (a : Act) (k i d : Nat) (v : Value), A.Pairwise (fun p q => p.2 ≠ q.2) → A[k]? = some (i, d) → vs[k]? = some none → fill A (vs.set k (some v)) a = (fill A vs a).put (some d) v
  | [], _, _, _, _, _, _, _, h, _ => by simp at h
  | _ :: _, [], _, _, _, _, _, _, _, h => by simp at h
  | (j, e) :: A, x :: vs, a, 0, i, d, v, hp, h, h' => by
    simp at h h'
    obtain ⟨rfl, rfl⟩ := h
    subst h'
    simp only [List.set_cons_zero, fill]
    exact fill_put A vs a e v (fun p hq => (List.rel_of_pairwise_cons hp hq).symm)
  | (j, e) :: A, some u :: vs, a, k + 1, i, d, v, hp, h, h' => by
    simp only [List.set_cons_succ, fill]
    exact fill_set A vs _ k i d v (List.Pairwise.of_cons hp) (by simpa using h) (by simpa using h')
  | (j, e) :: A, none :: vs, a, k + 1, i, d, v, hp, h, h' => by
    simp only [List.set_cons_succ, fill]
    exact fill_set A vs _ k i d v (List.Pairwise.of_cons hp) (by simpa using h) (by simpa using h')
theorem set_comm (l : Array Bool) (i j : Nat) : (l.setIfInBounds i true).setIfInBounds j true = (l.setIfInBounds j true).setIfInBounds i true := by
  by_cases h : i = j
  · subst h; rfl
  · exact Array.setIfInBounds_comm _ _ h
theorem mark_put : ∀ (A : List (Nat × Nat)) (bs : List Bool) (l : Array Bool) (i : Nat), mark A bs (l.setIfInBounds i true) = (mark A bs l).setIfInBounds i true
  | [], _, _, _ => by simp [mark]
  | _ :: _, [], _, _ => by simp [mark]
  | (j, e) :: A, true :: bs, l, i => by
    simp only [mark]
    rw [← mark_put A bs _ i, set_comm]
  | _ :: A, false :: bs, l, i => by simp only [mark]; exact mark_put A bs l i
theorem mark_set : ∀ (A : List (Nat × Nat)) (bs : List Bool) (l : Array Bool) (k i d : Nat), A[k]? = some (i, d) → bs[k]? = some false → mark A (bs.set k true) l = (mark A bs l).setIfInBounds i true
  | [], _, _, _, _, _, h, _ => by simp at h
  | _ :: _, [], _, _, _, _, _, h => by simp at h
  | (j, e) :: A, x :: bs, l, 0, i, d, h, h' => by
    simp at h h'
    obtain ⟨rfl, rfl⟩ := h
    subst h'
    simp only [List.set_cons_zero, mark]
    exact mark_put A bs l j
  | (j, e) :: A, true :: bs, l, k + 1, i, d, h, h' => by
    simp only [List.set_cons_succ, mark]
    exact mark_set A bs _ k i d (by simpa using h) (by simpa using h')
  | (j, e) :: A, false :: bs, l, k + 1, i, d, h, h' => by
    simp only [List.set_cons_succ, mark]
    exact mark_set A bs _ k i d (by simpa using h) (by simpa using h')
/-- all rows of so many bools -/
def bools : Nat → List (List Bool)
  | 0 => [[]]
  | n + 1 => (bools n).map (false :: ·) ++ (bools n).map (true :: ·)
theorem mem_bools : ∀ bs : List Bool, bs ∈ bools bs.length
  | [] => by simp [bools]
  | b :: bs => by
    have := mem_bools bs
    cases b <;> simp [bools, this]
/-- which come up next: just those that have not yet -/
def check (md : Region.Mode) (ops : Array Oper) (A : List (Nat × Nat)) (l : Array Bool) (bs : List Bool) : Bool :=
  bs.all id || ((Region.ready md ops (mark A bs l)).length != 0 && (Region.ready md ops (mark A bs l)).all fun j => (List.range A.length).any fun k => (A[k]?.map (·.1) == some j) && (bs[k]? == some false))
variable {P : Program} {ops : Array Oper} {Q : Exit → Act → World → Prop} {md : Region.Mode} {S : World → Prop}
theorem eval_fill (o : Oper) (hs : ∀ cs b, o.op ≠ .select cs b) : ∀ (A : List (Nat × Nat)) (vs : List (Option Value)) (a : Act), (∀ p ∈ A, p.2 ∉ o.looksAt ops) → execOp (fill A vs a).eval o = execOp a.eval o ∧ Region.wanted o (yielded ops (fill A vs a).tmps) = Region.wanted o (yielded ops a.tmps)
  | [], _, _, _ => by simp [fill]
  | _ :: _, [], _, _ => by simp [fill]
  | (i, e) :: A, some u :: vs, a, h => by
    simp only [fill]
    have h1 := eval_fill o hs A vs (a.put (some e) u) (fun p hp => h p (by simp [hp]))
    have h2 : ∀ d, some e = some d → d ∉ o.looksAt ops := fun d hd => by cases hd; exact h (i, e) (by simp)
    exact ⟨h1.1.trans (execOp_put o hs a (some e) u h2), h1.2.trans (wanted_put o a (some e) u h2)⟩
  | _ :: A, none :: vs, a, h => by
    simp only [fill]
    exact eval_fill o hs A vs a (fun p hp => h p (by simp [hp]))
theorem wpAnyH_allocs (A : List (Nat × Nat)) (a0 : Act) (l0 : Array Bool) (E : Nat → Value → World → Prop)
    (hd : A.Pairwise fun p q => p.2 ≠ q.2) (hchk : (bools A.length).all (check md ops A l0) = true)
    (hrun : ∀ k i d, A[k]? = some (i, d) → ∃ o, ops[i]? = some o ∧ o.dst = some d ∧ (∀ cs b, o.op ≠ .select cs b) ∧ (∀ p ∈ A, p.2 ∉ o.looksAt ops) ∧ Region.wanted o (yielded ops a0.tmps) = true ∧ ∀ w, S w → ∃ v w', (execOp a0.eval o).run P w = .ok (.value v) w' ∧ E k v w' ∧ S w' ∧ Below w.heap.size w w')
    (hmono : ∀ k v w w', E k v w → Below w.heap.size w w' → E k v w')
    (fuel : Nat) (H : ∀ (us : List Value) (w : World), us.length = A.length → (∀ k u, us[k]? = some u → E k u w) → S w → wpAnyH P md ops Q S fuel (mark A (us.map fun _ => true) l0) (fill A (us.map some) a0) w) :
    ∀ (n : Nat) (vs : List (Option Value)) (w : World), vs.length = A.length → n = (vs.filter Option.isNone).length → (∀ k u, vs[k]? = some (some u) → E k u w) → S w → wpAnyH P md ops Q S (fuel + n) (mark A (vs.map Option.isSome) l0) (fill A vs a0) w := by
  intro n
  induction n with
  | zero =>
    intro vs w hl hn hE hS
    have hall : ∀ v ∈ vs, v.isSome = true := by
      intro v hv
      have h0 := List.eq_nil_of_length_eq_zero hn.symm
      rw [List.filter_eq_nil_iff] at h0
      have := h0 v hv
      cases v
      · simp at this
      · rfl
    obtain ⟨us, rfl⟩ : ∃ us : List Value, vs = us.map some := by
      clear hn hE hl
      induction vs with
      | nil => exact ⟨[], rfl⟩
      | cons v vs ih =>
        obtain ⟨us, rfl⟩ := ih (fun v hv => hall v (by simp [hv]))
        have := hall v (by simp)
        cases v with
        | none => cases this
        | some u => exact ⟨u :: us, rfl⟩
    have h := H us w (by simpa using hl) (fun k u hu => hE k u (by simp [hu])) hS
    have e : (us.map some).map (Option.isSome) = us.map fun _ => true := by simp
    rw [e]; exact h
  | succ n ih =>
    intro vs w hl hn hE hS
    have hbs : (vs.map Option.isSome).length = A.length := by simpa using hl
    have hc := List.all_eq_true.1 hchk _ (hbs ▸ mem_bools (vs.map Option.isSome))
    have hnot : (vs.map Option.isSome).all id = false := by
      cases h : (vs.map Option.isSome).all id
      · rfl
      · exfalso
        have : (vs.filter Option.isNone) = [] := by
          rw [List.filter_eq_nil_iff]
          intro v hv
          have := List.all_eq_true.1 h v.isSome (List.mem_map.2 ⟨v, hv, rfl⟩)
          cases v
          · simp at this
          · simp
        rw [this] at hn; simp at hn
    unfold check at hc
    rw [hnot, Bool.false_or, Bool.and_eq_true] at hc
    refine ⟨fun h0 => by rw [h0] at hc; simp at hc, fun j hj => ?_⟩
    have h1 := List.all_eq_true.1 hc.2 j hj
    rw [List.any_eq_true] at h1
    obtain ⟨k, hk, h2⟩ := h1
    simp only [Bool.and_eq_true, beq_iff_eq] at h2
    obtain ⟨h3, h4⟩ := h2
    obtain ⟨⟨i, d⟩, h5, rfl⟩ : ∃ p, A[k]? = some p ∧ p.1 = j := by
      cases hA : A[k]? with
      | none => rw [hA] at h3; simp at h3
      | some p => rw [hA] at h3; exact ⟨p, rfl, by simpa using h3⟩
    have h6 : vs[k]? = some none := by
      rw [List.getElem?_map] at h4
      cases hv : vs[k]? with
      | none => rw [hv] at h4; simp at h4
      | some v =>
        rw [hv] at h4
        cases v
        · rfl
        · simp at h4
    obtain ⟨o, ho, hod, hsel, hlook, hwant, hr⟩ := hrun k i d h5
    obtain ⟨v, w', hrv, hEv, hS', hbw⟩ := hr w hS
    obtain ⟨he1, he2⟩ := eval_fill (ops := ops) o hsel A vs a0 hlook
    show wpOp P ops Q i _ (fill A vs a0) w
    unfold wpOp
    rw [ho]
    simp only
    rw [he2, hwant, if_pos rfl]
    refine .inl ?_
    unfold Oper.wp
    rw [he1, hrv]
    simp only [Oper.upon]
    refine ⟨hS', ?_⟩
    have hkl : k < vs.length := (List.getElem?_eq_some_iff.1 h6).1
    have ihh := ih (vs.set k (some v)) w' (by simpa using hl) ?_ ?_ hS'
    · have e1 : (vs.set k (some v)).map (Option.isSome) = (vs.map Option.isSome).set k true := by rw [List.map_set]; rfl
      rw [e1, mark_set A _ l0 k i d h5 h4, fill_set A vs a0 k i d v hd h5 h6, ← hod] at ihh
      exact ihh
    · -- one fewer
      have : ∀ (l : List (Option Value)) (k : Nat), l[k]? = some none → (l.filter Option.isNone).length = ((l.set k (some v)).filter Option.isNone).length + 1 := by
        intro l
        induction l with
        | nil => intro k h; simp at h
        | cons x l ih2 =>
          intro k h
          cases k with
          | zero => simp at h; subst h; simp
          | succ k =>
            have := ih2 k (by simpa using h)
            simp only [List.set_cons_succ, List.filter_cons]
            cases x
            · simp; omega
            · simpa using this
      have := this vs k h6
      omega
    · intro k' u hu
      by_cases hkk : k = k'
      · subst hkk
        rw [List.getElem?_set_self hkl] at hu
        cases hu; exact hEv
      · rw [List.getElem?_set_ne hkk] at hu
        exact hmono _ _ _ _ (hE k' u hu) hbw
end Al
end Go.Proofs.YtgpifbhfnbkgoaaDoor
namespace Go.Proofs.YtgpifbhfnbkgoaaDoor
open Go.RowKit

/-- what the k-th slice of a listed row is -/
def RowAt (rows : List (List Int)) (n0 : Nat) (k : Nat) (v : Value) (w : World) : Prop := ∃ b x, rows[k]? = some x ∧ v = .slice (some ⟨b, 0, none⟩) x.length x.length ∧ n0 ≤ b ∧ w.heap[b]? = some (.cells (x.map (Value.int .i64)).toArray 3 (0, 0))
theorem RowAt.mono {rows : List (List Int)} {n0 : Nat} (k : Nat) (v : Value) (w w' : World) (h : RowAt rows n0 k v w) (hb : Below w.heap.size w w') : RowAt rows n0 k v w' := by
  obtain ⟨b, x, h1, h2, h3, h4⟩ := h
  exact ⟨b, x, h1, h2, h3, (hb.block b (Array.getElem?_eq_some_iff.1 h4).1).trans h4⟩
theorem RowAt.new {rows : List (List Int)} {n0 k : Nat} {x : List Int} {cur : Array Value} {n : Nat} (w : World) (hx : rows[k]? = some x) (hn : n = x.length) (hc : cur = (x.map (Value.int .i64)).toArray) (h0 : n0 ≤ w.heap.size) : RowAt rows n0 k (.slice (some ⟨w.heap.size, 0, none⟩) n n) (w.alloc (.cells cur 3)) := by
  subst hn hc
  exact ⟨w.heap.size, x, hx, rfl, h0, by show (w.heap.push _)[w.heap.size]? = _; simp⟩
theorem ints_of_cells {w : World} {b : Nat} {x : List Int} (h : w.heap[b]? = some (.cells (x.map (Value.int .i64)).toArray 3 (0, 0))) (hw : ∀ z ∈ x, I64 z) (hl : x.length ≤ 17592186043904) : Ints w (some ⟨b, 0, none⟩) x := by
  refine ⟨fun _ => ⟨b, 0, rfl, (Array.getElem?_eq_some_iff.1 h).1, fun i z hz => ?_⟩, hw, hl⟩
  rw [cell_of_cells h]
  simp [hz]
/-- rows that were listed -/
theorem OwnL.listed (w : World) (base n0 : Nat) (hb : base ≤ w.heap.size) (rows : List (List Int)) (us : List Value) (hl : us.length = rows.length) (hE : ∀ k u, us[k]? = some u → RowAt rows n0 k u w) (hw : ∀ x ∈ rows, (∀ z ∈ x, I64 z) ∧ x.length ≤ 17592186043904) (n : Nat) (hn : n = rows.length) (hn2 : n ≤ 1000) :
    OwnL NoX (w.alloc (.cells us.toArray 30)) base (some ⟨w.heap.size, 0, none⟩) n rows := by
  subst hn
  refine ⟨NoX.off _, us, ⟨by simp [hl], .inr ⟨w.heap.size, rows.length, us.toArray, rfl, hb, by show (w.heap.push _)[w.heap.size]? = _; simp, Nat.le_refl _, by unfold maxLen; omega, by simp [hl], by simp [← hl]⟩⟩, fun i x hx => ?_⟩
  obtain ⟨u, hu⟩ : ∃ u, us[i]? = some u := ⟨_, List.getElem?_eq_getElem (by rw [hl]; exact (List.getElem?_eq_some_iff.1 hx).1)⟩
  obtain ⟨b, y, h1, h2, h3, h4⟩ := hE i u hu
  rw [hx] at h1
  cases h1
  have hxw := hw x (List.mem_of_getElem? hx)
  refine ⟨_, _, by rw [hu, h2], (ints_of_cells h4 hxw.1 hxw.2).alloc _, fun ad e => ?_, NoX.off _⟩
  have e2 := eff_some e
  cases e2
  exact .inr ⟨_, _, (Below.heap_alloc _ _ b (Array.getElem?_eq_some_iff.1 h4).1).trans h4⟩
theorem lit_i64 {x : Int} (h1 : -20000 ≤ x) (h2 : x ≤ 20000) : I64 x := by constructor <;> omega
theorem vals4 {us : List Value} (h : us.length = 4) : ∃ u0 u1 u2 u3, us = [u0, u1, u2, u3] := by
  match us, h with
  | [u0, u1, u2, u3], _ => exact ⟨u0, u1, u2, u3, rfl⟩
theorem vals6 {us : List Value} (h : us.length = 6) : ∃ u0 u1 u2 u3 u4 u5, us = [u0, u1, u2, u3, u4, u5] := by
  match us, h with
  | [u0, u1, u2, u3, u4, u5], _ => exact ⟨u0, u1, u2, u3, u4, u5, rfl⟩
theorem rgate_i64xor {vars : Nat} {x y : Int} (h1 : 0 ≤ vars) (h2 : vars ≤ 20000) (hx1 : -20000 ≤ x) (hx2 : x ≤ 20000) (hy1 : -20000 ≤ y) (hy2 : y ≤ 20000) : ∀ r ∈ M.xorC ((vars : Int) + 1) x y, (∀ z ∈ r, I64 z) ∧ r.length ≤ 17592186043904 := by
  intro r hr
  simp only [M.xorC, List.mem_cons, List.not_mem_nil, or_false] at hr
  rcases hr with rfl | rfl | rfl | rfl <;> refine ⟨fun z hz => ?_, by simp⟩ <;> simp only [List.mem_cons, List.not_mem_nil, or_false] at hz <;> rcases hz with rfl | rfl | rfl <;> constructor <;> omega
theorem rgate_litsxor {vars : Nat} {x y : Int} (hl : ∀ u ∈ [x, y], M.isLit u = true) (hv : vars < 20000) : ∀ l ∈ M.xorC ((vars : Int) + 1) x y, (∀ x ∈ l, M.isLit x = true) ∧ l.length ≤ 1000000 := by
  intro l h
  refine ⟨fun t ht => M.gateC_lits (kind := 3) (g := (vars : Int) + 1) (l := [x, y]) (by rw [M.isLit_iff]; omega) hl (fun _ => rfl) (fun _ _ h => absurd rfl h) l h t ht, ?_⟩
  simp only [M.xorC, List.mem_cons, List.not_mem_nil, or_false] at h
  rcases h with rfl | rfl | rfl | rfl <;> simp
theorem rgate_i64most {vars : Nat} {x y z : Int} (h1 : 0 ≤ vars) (h2 : vars ≤ 20000) (hx1 : -20000 ≤ x) (hx2 : x ≤ 20000) (hy1 : -20000 ≤ y) (hy2 : y ≤ 20000) (hz1 : -20000 ≤ z) (hz2 : z ≤ 20000) : ∀ r ∈ M.mostC ((vars : Int) + 1) x y z, (∀ z ∈ r, I64 z) ∧ r.length ≤ 17592186043904 := by
  intro r hr
  simp only [M.mostC, List.mem_cons, List.not_mem_nil, or_false] at hr
  rcases hr with rfl | rfl | rfl | rfl | rfl | rfl <;> refine ⟨fun z hz => ?_, by simp⟩ <;> simp only [List.mem_cons, List.not_mem_nil, or_false] at hz <;> rcases hz with rfl | rfl | rfl <;> constructor <;> omega
theorem rgate_litsmost {vars : Nat} {x y z : Int} (hl : ∀ u ∈ [x, y, z], M.isLit u = true) (hv : vars < 20000) : ∀ l ∈ M.mostC ((vars : Int) + 1) x y z, (∀ x ∈ l, M.isLit x = true) ∧ l.length ≤ 1000000 := by
  intro l h
  refine ⟨fun t ht => M.gateC_lits (kind := 4) (g := (vars : Int) + 1) (l := [x, y, z]) (by rw [M.isLit_iff]; omega) hl (fun _ => by omega) (fun _ _ h => rfl) l h t ht, ?_⟩
  simp only [M.mostC, List.mem_cons, List.not_mem_nil, or_false] at h
  rcases h with rfl | rfl | rfl | rfl | rfl | rfl <;> simp
set_option maxHeartbeats 8000000 in
set_option maxRecDepth 100000 in
theorem rgatexor_any (base q vars : Nat) (cs : List (List Int)) (a : Option Addr) (c : Nat) (b : Option Addr) (d : Nat) (x y : Int) (w : World) (hF : Rf w base q vars cs a c) (hb : base ≤ w.heap.size) (hz : Ints w b [x, y]) (hown : M.own vars [x, y] = true) (hsm : cs.length + 1001 ≤ 200000) :
    Calls Tryd.prog 11 #[.pointer (some ⟨q, 0, none⟩), .int .i64 3, .slice b 2 d] w (RGateRes w base q vars cs a (M.xorC ((vars : Int) + 1) x y)) := by
  obtain ⟨bb, off, rfl, hbl, _⟩ := hz.addr (by simp)
  have hvv := hF.vars
  have hlits := M.own_isLit hvv hown
  have hlx := (M.isLit_iff x).1 (hlits x (by simp))
  have hx1 : -20000 ≤ x := hlx.2.1
  have hx2 : x ≤ 20000 := hlx.2.2
  have hly := (M.isLit_iff y).1 (hlits y (by simp))
  have hy1 : -20000 ≤ y := hly.2.1
  have hy2 : y ≤ 20000 := hly.2.2
  have ho := rown_any q vars (some ⟨bb, off, none⟩) d [x, y] w hF.cell0 hvv hz
  rw [hown] at ho
  have HO := Lib.hid ho
  have HLI := Lib.hid hlits
  have h0 := hF.cell0
  have hw0 : IntKind.i64.wrap (-((vars : Int) + 1)) = -((vars : Int) + 1) := by rw [IntKind.wrap_i64]; omega
  have hwx : IntKind.i64.wrap (-x) = -x := by rw [IntKind.wrap_i64]; omega
  have hwy : IntKind.i64.wrap (-y) = -y := by rw [IntKind.wrap_i64]; omega
  obtain ⟨t0, t1⟩ := hz.cells2
  have HF := Lib.hid hF
  have HBS := Lib.hid hb
  clear ho hown hlits hlx hly hF hz
  go_enter Tryd.func11, Tryd.ntmps11
  go_wp2_with (go_at_call 37; refine HO.out.mono ?_; rintro e w' ⟨rfl, rfl⟩)
  have hbW : Below w.heap.size w ((w.alloc (Obj.cells #[] 30)).alloc (Obj.cells #[] 3)) := ((Below.refl _ _).alloc (Nat.le_refl _) _).alloc (by simp) _
  generalize hW : ((w.alloc (Obj.cells #[] 30)).alloc (Obj.cells #[] 3)) = W at *
  clear hW
  have r0 : W.cell? ⟨bb, off, none⟩ = some (.int .i64 x) := (hbW.cell (p := ⟨bb, off, none⟩) hbl).trans t0
  have r1 : W.cell? ⟨bb, off + 1, none⟩ = some (.int .i64 y) := (hbW.cell (p := ⟨bb, off + 1, none⟩) hbl).trans t1
  have hsc : ∀ wx, Below w.heap.size w wx → wx.cell? ⟨bb, off, none⟩ = some (.int .i64 x) ∧ wx.cell? ⟨bb, off + 1, none⟩ = some (.int .i64 y) := fun wx hb => ⟨(hb.cell (p := ⟨bb, off, none⟩) hbl).trans t0, (hb.cell (p := ⟨bb, off + 1, none⟩) hbl).trans t1⟩
  have HSC := Lib.hid hsc
  have HBW := Lib.hid hbW
  clear t0 t1 hsc
  refine wp_region_held_drew (S := fun w' => (w'.cell? ⟨bb, off, none⟩ = some (.int .i64 x) ∧ w'.cell? ⟨bb, off + 1, none⟩ = some (.int .i64 y)) ∧ Below w.heap.size w w') (by kernel_rfl) ⟨HSC.out _ hbW.drew, hbW.drew⟩ (fun hHeld => ?_)
  clear hbW
  refine wpAnyH_take (i := 0) (oi := _) (v := ?_) rfl (by kernel_rfl) (by kernel_rfl) (by kernel_rfl) (fun _ _ _ h => h) (Or.inl ⟨by rfl, ?_⟩) (by assumption) ?_
  rotate_left
  · intro w hSw
    try dsimp only at hSw
    go_simp
    try with_reducible rfl
  try simp only [Act.put, List.setIfInBounds_toArray, List.set_cons_zero, List.set_cons_succ, List.getElem_toArray, List.getElem_cons_zero]
  refine wpAnyH_take (i := 1) (oi := _) (v := ?_) rfl (by kernel_rfl) (by kernel_rfl) (by kernel_rfl) (fun _ _ _ h => h) (Or.inl ⟨by rfl, ?_⟩) (by assumption) ?_
  rotate_left
  · intro w hSw
    try dsimp only at hSw
    go_simp
    try with_reducible rfl
  try simp only [Act.put, List.setIfInBounds_toArray, List.set_cons_zero, List.set_cons_succ, List.getElem_toArray, List.getElem_cons_zero, List.getElem_cons_succ]
  refine wpAnyH_take (i := 2) (oi := _) (v := ?_) rfl (by kernel_rfl) (by kernel_rfl) (by kernel_rfl) (fun _ _ _ h => h) (Or.inl ⟨by rfl, ?_⟩) (by assumption) ?_
  rotate_left
  · intro w hSw
    try dsimp only at hSw
    go_simp
    try with_reducible rfl
  try simp only [Act.put, List.setIfInBounds_toArray, List.set_cons_zero, List.set_cons_succ, List.getElem_toArray, List.getElem_cons_zero, List.getElem_cons_succ]
  refine wpAnyH_take (i := 3) (oi := _) (v := ?_) rfl (by kernel_rfl) (by kernel_rfl) (by kernel_rfl) (fun _ _ _ h => h) (Or.inl ⟨by rfl, ?_⟩) (by assumption) ?_
  rotate_left
  · intro w hSw
    try dsimp only at hSw
    go_simp
    try with_reducible rfl
  try simp only [Act.put, List.setIfInBounds_toArray, List.set_cons_zero, List.set_cons_succ, List.getElem_toArray, List.getElem_cons_zero, List.getElem_cons_succ]
  refine wpAnyH_take (i := 4) (oi := _) (v := ?_) rfl (by kernel_rfl) (by kernel_rfl) (by kernel_rfl) (fun _ _ _ h => h) (Or.inl ⟨by rfl, ?_⟩) (by assumption) ?_
  rotate_left
  · intro w hSw
    try dsimp only at hSw
    go_simp
    try with_reducible rfl
  try simp only [Act.put, List.setIfInBounds_toArray, List.set_cons_zero, List.set_cons_succ, List.getElem_toArray, List.getElem_cons_zero, List.getElem_cons_succ]
  refine wpAnyH_take (i := 5) (oi := _) (v := ?_) rfl (by kernel_rfl) (by kernel_rfl) (by kernel_rfl) (fun _ _ _ h => h) (Or.inl ⟨by rfl, ?_⟩) (by assumption) ?_
  rotate_left
  · intro w hSw
    try dsimp only at hSw
    go_simp
    try with_reducible rfl
  try simp only [Act.put, List.setIfInBounds_toArray, List.set_cons_zero, List.set_cons_succ, List.getElem_toArray, List.getElem_cons_zero, List.getElem_cons_succ]
  refine wpAnyH_take (i := 6) (oi := _) (v := ?_) rfl (by kernel_rfl) (by kernel_rfl) (by kernel_rfl) (fun _ _ _ h => h) (Or.inl ⟨by rfl, ?_⟩) (by assumption) ?_
  rotate_left
  · intro w hSw
    try dsimp only at hSw
    go_simp
    try with_reducible rfl
  try simp only [Act.put, List.setIfInBounds_toArray, List.set_cons_zero, List.set_cons_succ, List.getElem_toArray, List.getElem_cons_zero, List.getElem_cons_succ]
  refine wpAnyH_take (i := 7) (oi := _) (v := ?_) rfl (by kernel_rfl) (by kernel_rfl) (by kernel_rfl) (fun _ _ _ h => h) (Or.inl ⟨by rfl, ?_⟩) (by assumption) ?_
  rotate_left
  · intro w hSw
    try dsimp only at hSw
    go_simp
    try with_reducible rfl
  try simp only [Act.put, List.setIfInBounds_toArray, List.set_cons_zero, List.set_cons_succ, List.getElem_toArray, List.getElem_cons_zero, List.getElem_cons_succ]
  refine wpAnyH_take (i := 9) (oi := _) (v := ?_) rfl (by kernel_rfl) (by kernel_rfl) (by kernel_rfl) (fun _ _ _ h => h) (Or.inl ⟨by rfl, ?_⟩) (by assumption) ?_
  rotate_left
  · intro w hSw
    try dsimp only at hSw
    go_simp
    try with_reducible rfl
  try simp only [Act.put, List.setIfInBounds_toArray, List.set_cons_zero, List.set_cons_succ, List.getElem_toArray, List.getElem_cons_zero, List.getElem_cons_succ]
  refine wpAnyH_take (i := 10) (oi := _) (v := ?_) rfl (by kernel_rfl) (by kernel_rfl) (by kernel_rfl) (fun _ _ _ h => h) (Or.inl ⟨by rfl, ?_⟩) (by assumption) ?_
  rotate_left
  · intro w hSw
    try dsimp only at hSw
    go_simp
    try with_reducible rfl
  try simp only [Act.put, List.setIfInBounds_toArray, List.set_cons_zero, List.set_cons_succ, List.getElem_toArray, List.getElem_cons_zero, List.getElem_cons_succ]
  refine wpAnyH_take (i := 11) (oi := _) (v := ?_) rfl (by kernel_rfl) (by kernel_rfl) (by kernel_rfl) (fun _ _ _ h => h) (Or.inl ⟨by rfl, ?_⟩) (by assumption) ?_
  rotate_left
  · intro w hSw
    try dsimp only at hSw
    go_simp
    try with_reducible rfl
  try simp only [Act.put, List.setIfInBounds_toArray, List.set_cons_zero, List.set_cons_succ, List.getElem_toArray, List.getElem_cons_zero, List.getElem_cons_succ]
  refine wpAnyH_take (i := 12) (oi := _) (v := ?_) rfl (by kernel_rfl) (by kernel_rfl) (by kernel_rfl) (fun _ _ _ h => h) (Or.inl ⟨by rfl, ?_⟩) (by assumption) ?_
  rotate_left
  · intro w hSw
    try dsimp only at hSw
    go_simp
    try with_reducible rfl
  try simp only [Act.put, List.setIfInBounds_toArray, List.set_cons_zero, List.set_cons_succ, List.getElem_toArray, List.getElem_cons_zero, List.getElem_cons_succ]
  refine wpAnyH_take (i := 13) (oi := _) (v := ?_) rfl (by kernel_rfl) (by kernel_rfl) (by kernel_rfl) (fun _ _ _ h => h) (Or.inl ⟨by rfl, ?_⟩) (by assumption) ?_
  rotate_left
  · intro w hSw
    try dsimp only at hSw
    go_simp
    try with_reducible rfl
  try simp only [Act.put, List.setIfInBounds_toArray, List.set_cons_zero, List.set_cons_succ, List.getElem_toArray, List.getElem_cons_zero, List.getElem_cons_succ]
  refine wpAnyH_take (i := 14) (oi := _) (v := ?_) rfl (by kernel_rfl) (by kernel_rfl) (by kernel_rfl) (fun _ _ _ h => h) (Or.inl ⟨by rfl, ?_⟩) (by assumption) ?_
  rotate_left
  · intro w hSw
    try dsimp only at hSw
    go_simp
    try with_reducible rfl
  try simp only [Act.put, List.setIfInBounds_toArray, List.set_cons_zero, List.set_cons_succ, List.getElem_toArray, List.getElem_cons_zero, List.getElem_cons_succ]
  refine wpAnyH_take (i := 15) (oi := _) (v := ?_) rfl (by kernel_rfl) (by kernel_rfl) (by kernel_rfl) (fun _ _ _ h => h) (Or.inl ⟨by rfl, ?_⟩) (by assumption) ?_
  rotate_left
  · intro w hSw
    try dsimp only at hSw
    go_simp
    try with_reducible rfl
  try simp only [Act.put, List.setIfInBounds_toArray, List.set_cons_zero, List.set_cons_succ, List.getElem_toArray, List.getElem_cons_zero, List.getElem_cons_succ]
  refine wpAnyH_take (i := 16) (oi := _) (v := ?_) rfl (by kernel_rfl) (by kernel_rfl) (by kernel_rfl) (fun _ _ _ h => h) (Or.inl ⟨by rfl, ?_⟩) (by assumption) ?_
  rotate_left
  · intro w hSw
    try dsimp only at hSw
    go_simp
    try with_reducible rfl
  try simp only [Act.put, List.setIfInBounds_toArray, List.set_cons_zero, List.set_cons_succ, List.getElem_toArray, List.getElem_cons_zero, List.getElem_cons_succ]
  refine wpAnyH_take (i := 17) (oi := _) (v := ?_) rfl (by kernel_rfl) (by kernel_rfl) (by kernel_rfl) (fun _ _ _ h => h) (Or.inl ⟨by rfl, ?_⟩) (by assumption) ?_
  rotate_left
  · intro w hSw
    try dsimp only at hSw
    go_simp
    try with_reducible rfl
  try simp only [Act.put, List.setIfInBounds_toArray, List.set_cons_zero, List.set_cons_succ, List.getElem_toArray, List.getElem_cons_zero, List.getElem_cons_succ]
  refine wpAnyH_take (i := 18) (oi := _) (v := ?_) rfl (by kernel_rfl) (by kernel_rfl) (by kernel_rfl) (fun _ _ _ h => h) (Or.inl ⟨by rfl, ?_⟩) (by assumption) ?_
  rotate_left
  · intro w hSw
    try dsimp only at hSw
    go_simp
    try with_reducible rfl
  try simp only [Act.put, List.setIfInBounds_toArray, List.set_cons_zero, List.set_cons_succ, List.getElem_toArray, List.getElem_cons_zero, List.getElem_cons_succ]
  refine wpAnyH_take (i := 20) (oi := _) (v := ?_) rfl (by kernel_rfl) (by kernel_rfl) (by kernel_rfl) (fun _ _ _ h => h) (Or.inl ⟨by rfl, ?_⟩) (by assumption) ?_
  rotate_left
  · intro w hSw
    try dsimp only at hSw
    go_simp
    try with_reducible rfl
  try simp only [Act.put, List.setIfInBounds_toArray, List.set_cons_zero, List.set_cons_succ, List.getElem_toArray, List.getElem_cons_zero, List.getElem_cons_succ]
  refine wpAnyH_take (i := 21) (oi := _) (v := ?_) rfl (by kernel_rfl) (by kernel_rfl) (by kernel_rfl) (fun _ _ _ h => h) (Or.inl ⟨by rfl, ?_⟩) (by assumption) ?_
  rotate_left
  · intro w hSw
    try dsimp only at hSw
    go_simp
    try with_reducible rfl
  try simp only [Act.put, List.setIfInBounds_toArray, List.set_cons_zero, List.set_cons_succ, List.getElem_toArray, List.getElem_cons_zero, List.getElem_cons_succ]
  refine wpAnyH_take (i := 22) (oi := _) (v := ?_) rfl (by kernel_rfl) (by kernel_rfl) (by kernel_rfl) (fun _ _ _ h => h) (Or.inl ⟨by rfl, ?_⟩) (by assumption) ?_
  rotate_left
  · intro w hSw
    try dsimp only at hSw
    go_simp
    try with_reducible rfl
  try simp only [Act.put, List.setIfInBounds_toArray, List.set_cons_zero, List.set_cons_succ, List.getElem_toArray, List.getElem_cons_zero, List.getElem_cons_succ]
  refine wpAnyH_take (i := 23) (oi := _) (v := ?_) rfl (by kernel_rfl) (by kernel_rfl) (by kernel_rfl) (fun _ _ _ h => h) (Or.inl ⟨by rfl, ?_⟩) (by assumption) ?_
  rotate_left
  · intro w hSw
    try dsimp only at hSw
    go_simp
    try with_reducible rfl
  try simp only [Act.put, List.setIfInBounds_toArray, List.set_cons_zero, List.set_cons_succ, List.getElem_toArray, List.getElem_cons_zero, List.getElem_cons_succ]
  refine wpAnyH_take (i := 24) (oi := _) (v := ?_) rfl (by kernel_rfl) (by kernel_rfl) (by kernel_rfl) (fun _ _ _ h => h) (Or.inl ⟨by rfl, ?_⟩) (by assumption) ?_
  rotate_left
  · intro w hSw
    try dsimp only at hSw
    go_simp
    try with_reducible rfl
  try simp only [Act.put, List.setIfInBounds_toArray, List.set_cons_zero, List.set_cons_succ, List.getElem_toArray, List.getElem_cons_zero, List.getElem_cons_succ]
  refine wpAnyH_take (i := 25) (oi := _) (v := ?_) rfl (by kernel_rfl) (by kernel_rfl) (by kernel_rfl) (fun _ _ _ h => h) (Or.inl ⟨by rfl, ?_⟩) (by assumption) ?_
  rotate_left
  · intro w hSw
    try dsimp only at hSw
    go_simp
    try with_reducible rfl
  try simp only [Act.put, List.setIfInBounds_toArray, List.set_cons_zero, List.set_cons_succ, List.getElem_toArray, List.getElem_cons_zero, List.getElem_cons_succ]
  refine wpAnyH_take (i := 26) (oi := _) (v := ?_) rfl (by kernel_rfl) (by kernel_rfl) (by kernel_rfl) (fun _ _ _ h => h) (Or.inl ⟨by rfl, ?_⟩) (by assumption) ?_
  rotate_left
  · intro w hSw
    try dsimp only at hSw
    go_simp
    try with_reducible rfl
  try simp only [Act.put, List.setIfInBounds_toArray, List.set_cons_zero, List.set_cons_succ, List.getElem_toArray, List.getElem_cons_zero, List.getElem_cons_succ]
  refine wpAnyH_take (i := 27) (oi := _) (v := ?_) rfl (by kernel_rfl) (by kernel_rfl) (by kernel_rfl) (fun _ _ _ h => h) (Or.inl ⟨by rfl, ?_⟩) (by assumption) ?_
  rotate_left
  · intro w hSw
    try dsimp only at hSw
    go_simp
    try with_reducible rfl
  try simp only [Act.put, List.setIfInBounds_toArray, List.set_cons_zero, List.set_cons_succ, List.getElem_toArray, List.getElem_cons_zero, List.getElem_cons_succ]
  refine wpAnyH_take (i := 29) (oi := _) (v := ?_) rfl (by kernel_rfl) (by kernel_rfl) (by kernel_rfl) (fun _ _ _ h => h) (Or.inl ⟨by rfl, ?_⟩) (by assumption) ?_
  rotate_left
  · intro w hSw
    try dsimp only at hSw
    go_simp
    try with_reducible rfl
  try simp only [Act.put, List.setIfInBounds_toArray, List.set_cons_zero, List.set_cons_succ, List.getElem_toArray, List.getElem_cons_zero, List.getElem_cons_succ]
  refine wpAnyH_take (i := 30) (oi := _) (v := ?_) rfl (by kernel_rfl) (by kernel_rfl) (by kernel_rfl) (fun _ _ _ h => h) (Or.inl ⟨by rfl, ?_⟩) (by assumption) ?_
  rotate_left
  · intro w hSw
    try dsimp only at hSw
    go_simp
    try with_reducible rfl
  try simp only [Act.put, List.setIfInBounds_toArray, List.set_cons_zero, List.set_cons_succ, List.getElem_toArray, List.getElem_cons_zero, List.getElem_cons_succ]
  refine wpAnyH_take (i := 31) (oi := _) (v := ?_) rfl (by kernel_rfl) (by kernel_rfl) (by kernel_rfl) (fun _ _ _ h => h) (Or.inl ⟨by rfl, ?_⟩) (by assumption) ?_
  rotate_left
  · intro w hSw
    try dsimp only at hSw
    go_simp
    try with_reducible rfl
  try simp only [Act.put, List.setIfInBounds_toArray, List.set_cons_zero, List.set_cons_succ, List.getElem_toArray, List.getElem_cons_zero, List.getElem_cons_succ]
  refine wpAnyH_take (i := 32) (oi := _) (v := ?_) rfl (by kernel_rfl) (by kernel_rfl) (by kernel_rfl) (fun _ _ _ h => h) (Or.inl ⟨by rfl, ?_⟩) (by assumption) ?_
  rotate_left
  · intro w hSw
    try dsimp only at hSw
    go_simp
    try with_reducible rfl
  try simp only [Act.put, List.setIfInBounds_toArray, List.set_cons_zero, List.set_cons_succ, List.getElem_toArray, List.getElem_cons_zero, List.getElem_cons_succ]
  refine wpAnyH_take (i := 33) (oi := _) (v := ?_) rfl (by kernel_rfl) (by kernel_rfl) (by kernel_rfl) (fun _ _ _ h => h) (Or.inl ⟨by rfl, ?_⟩) (by assumption) ?_
  rotate_left
  · intro w hSw
    try dsimp only at hSw
    go_simp
    try with_reducible rfl
  try simp only [Act.put, List.setIfInBounds_toArray, List.set_cons_zero, List.set_cons_succ, List.getElem_toArray, List.getElem_cons_zero, List.getElem_cons_succ]
  refine wpAnyH_take (i := 34) (oi := _) (v := ?_) rfl (by kernel_rfl) (by kernel_rfl) (by kernel_rfl) (fun _ _ _ h => h) (Or.inl ⟨by rfl, ?_⟩) (by assumption) ?_
  rotate_left
  · intro w hSw
    try dsimp only at hSw
    go_simp
    try with_reducible rfl
  try simp only [Act.put, List.setIfInBounds_toArray, List.set_cons_zero, List.set_cons_succ, List.getElem_toArray, List.getElem_cons_zero, List.getElem_cons_succ]
  refine wpAnyH_take (i := 35) (oi := _) (v := ?_) rfl (by kernel_rfl) (by kernel_rfl) (by kernel_rfl) (fun _ _ _ h => h) (Or.inl ⟨by rfl, ?_⟩) (by assumption) ?_
  rotate_left
  · intro w hSw
    try dsimp only at hSw
    go_simp
    try with_reducible rfl
  try simp only [Act.put, List.setIfInBounds_toArray, List.set_cons_zero, List.set_cons_succ, List.getElem_toArray, List.getElem_cons_zero, List.getElem_cons_succ]
  refine wpAnyH_take (i := 36) (oi := _) (v := ?_) rfl (by kernel_rfl) (by kernel_rfl) (by kernel_rfl) (fun _ _ _ h => h) (Or.inl ⟨by rfl, ?_⟩) (by assumption) ?_
  rotate_left
  · intro w hSw
    try dsimp only at hSw
    go_simp
    try with_reducible rfl
  try simp only [Act.put, List.setIfInBounds_toArray, List.set_cons_zero, List.set_cons_succ, List.getElem_toArray, List.getElem_cons_zero, List.getElem_cons_succ]
  clear hHeld
  refine Al.wpAnyH_allocs [(8, 95), (19, 106), (28, 115), (37, 124)] _ _ (RowAt (M.xorC ((vars : Int) + 1) x y) w.heap.size) (by simp) (by kernel_rfl) ?hrun (fun k v w w' => RowAt.mono k v w w') 2 ?H 4 [none, none, none, none] W.drew rfl rfl (by intro k u hu; match k, hu with | 0, hu => simp at hu | 1, hu => simp at hu | 2, hu => simp at hu | 3, hu => simp at hu | k + 4, hu => simp at hu) ⟨HSC.out _ HBW.out.drew, HBW.out.drew⟩
  case hrun =>
    intro k i d h
    match k, h with
    | 0, h =>
      simp at h
      obtain ⟨rfl, rfl⟩ := h
      refine ⟨_, rfl, rfl, (fun _ _ h => by cases h), (by decide), (by rfl), fun w3 hS3 => ⟨.slice (some ⟨w3.heap.size, 0, none⟩) 3 3, w3.alloc (.cells #[.int .i64 (-((vars : Int) + 1)), .int .i64 (x), .int .i64 (y)] 3), by go_simp, RowAt.new w3 rfl rfl rfl (hS3.2.size), ⟨?_, hS3.2.alloc hS3.2.size _⟩, below_alloc (Below.refl _ _) _⟩⟩
      exact HSC.out _ (hS3.2.alloc hS3.2.size _)
    | 1, h =>
      simp at h
      obtain ⟨rfl, rfl⟩ := h
      refine ⟨_, rfl, rfl, (fun _ _ h => by cases h), (by decide), (by rfl), fun w3 hS3 => ⟨.slice (some ⟨w3.heap.size, 0, none⟩) 3 3, w3.alloc (.cells #[.int .i64 (-((vars : Int) + 1)), .int .i64 (-x), .int .i64 (-y)] 3), by go_simp, RowAt.new w3 rfl rfl rfl (hS3.2.size), ⟨?_, hS3.2.alloc hS3.2.size _⟩, below_alloc (Below.refl _ _) _⟩⟩
      exact HSC.out _ (hS3.2.alloc hS3.2.size _)
    | 2, h =>
      simp at h
      obtain ⟨rfl, rfl⟩ := h
      refine ⟨_, rfl, rfl, (fun _ _ h => by cases h), (by decide), (by rfl), fun w3 hS3 => ⟨.slice (some ⟨w3.heap.size, 0, none⟩) 3 3, w3.alloc (.cells #[.int .i64 ((vars : Int) + 1), .int .i64 (-x), .int .i64 (y)] 3), by go_simp, RowAt.new w3 rfl rfl rfl (hS3.2.size), ⟨?_, hS3.2.alloc hS3.2.size _⟩, below_alloc (Below.refl _ _) _⟩⟩
      exact HSC.out _ (hS3.2.alloc hS3.2.size _)
    | 3, h =>
      simp at h
      obtain ⟨rfl, rfl⟩ := h
      refine ⟨_, rfl, rfl, (fun _ _ h => by cases h), (by decide), (by rfl), fun w3 hS3 => ⟨.slice (some ⟨w3.heap.size, 0, none⟩) 3 3, w3.alloc (.cells #[.int .i64 ((vars : Int) + 1), .int .i64 (x), .int .i64 (-y)] 3), by go_simp, RowAt.new w3 rfl rfl rfl (hS3.2.size), ⟨?_, hS3.2.alloc hS3.2.size _⟩, below_alloc (Below.refl _ _) _⟩⟩
      exact HSC.out _ (hS3.2.alloc hS3.2.size _)
    | k + 4, h => simp at h
  case H =>
    intro us w3 hus hE hS
    obtain ⟨u0, u1, u2, u3, rfl⟩ := vals4 hus
    obtain ⟨b0, x0, _, rfl, _⟩ := hE 0 u0 rfl
    obtain ⟨b1, x1, _, rfl, _⟩ := hE 1 u1 rfl
    obtain ⟨b2, x2, _, rfl, _⟩ := hE 2 u2 rfl
    obtain ⟨b3, x3, _, rfl, _⟩ := hE 3 u3 rfl
    have HE := Lib.hid hE
    have HB3 := Lib.hid hS.2
    have hHeld := hS
    clear hE hS hus
    simp only [Al.fill, Al.mark, List.map_cons, List.map_nil, Act.put, List.setIfInBounds_toArray, List.set_cons_zero, List.set_cons_succ]
    refine wpAnyH_ready (rs := [38]) (by kernel_rfl) (by simp) ?_
    refine AllReadyH.cons (o := _) rfl (fun K hK => ?_) AllReadyH.nil
    go_simp
    have hbo := HB3.out.alloc HB3.out.size (.cells #[.slice (some ⟨b0, 0, none⟩) x0.length x0.length, .slice (some ⟨b1, 0, none⟩) x1.length x1.length, .slice (some ⟨b2, 0, none⟩) x2.length x2.length, .slice (some ⟨b3, 0, none⟩) x3.length x3.length] 30)
    refine hK.out _ _ ⟨HSC.out _ hbo, hbo⟩ (fun hHeld => ?_)
    clear hK K
    try simp only [List.setIfInBounds_toArray]
    refine wpAnyH_take (i := 39) (oi := _) (v := ?_) rfl (by kernel_rfl) (by kernel_rfl) (by kernel_rfl) (fun _ _ _ h => h) (Or.inl ⟨by rfl, ?_⟩) (by assumption) ?_
    rotate_left
    · intro w hSw
      try dsimp only at hSw
      go_simp
      try with_reducible rfl
    refine wpAnyH_done (by kernel_rfl) ?_ _
    clear hHeld
    have hL := OwnL.listed w3 base w.heap.size (Nat.le_trans HBS.out HB3.out.size) (M.xorC ((vars : Int) + 1) x y) [.slice (some ⟨b0, 0, none⟩) x0.length x0.length, .slice (some ⟨b1, 0, none⟩) x1.length x1.length, .slice (some ⟨b2, 0, none⟩) x2.length x2.length, .slice (some ⟨b3, 0, none⟩) x3.length x3.length] rfl HE.out (rgate_i64xor (by omega) (by omega) (by omega) (by omega) (by omega) (by omega)) 4 rfl (by omega)
    have HLX := Lib.hid hL
    have HBX := Lib.hid hbo
    clear hL hbo
    by_cases hv : vars < 20000
    · have hd1 : decide ((20000 : Int) < (vars : Int) + 1) = false := by simp; omega
      have hgd : decide ((200000 : Int) - (cs.length : Int) < 4) = false := by simp; omega
      have hc1 := (HF.out.below HBX.out).cell1
      have hc0 := (HF.out.below HBX.out).cell0
      have hf0 := (HF.out.below HBX.out).frozen 0
      have HPUT := Lib.hid (rgate_put HF.out HBS.out HBX.out HLX.out (show _ = 4 from rfl) hv (rgate_litsxor HLI.out hv) (by omega))
      have HV := Lib.hid hv
      clear hv
      go_wp2_with (go_at_call 38; refine HPUT.out.mono ?_; rintro e w8 ⟨rfl, hp⟩; have HPO := Lib.hid hp; clear hp)
      go_ret2
      exact .inl ⟨HV.out, rfl, HPO.out⟩
    · have hd1 : decide ((20000 : Int) < (vars : Int) + 1) = true := by simp; omega
      have HV := Lib.hid hv
      clear hv
      go_wp2
      go_ret2
      exact .inr ⟨HV.out, rfl, HBX.out⟩
set_option maxHeartbeats 8000000 in
set_option maxRecDepth 100000 in
theorem rgatemost_any (base q vars : Nat) (cs : List (List Int)) (a : Option Addr) (c : Nat) (b : Option Addr) (d : Nat) (x y z : Int) (w : World) (hF : Rf w base q vars cs a c) (hb : base ≤ w.heap.size) (hz : Ints w b [x, y, z]) (hown : M.own vars [x, y, z] = true) (hsm : cs.length + 1001 ≤ 200000) :
    Calls Tryd.prog 11 #[.pointer (some ⟨q, 0, none⟩), .int .i64 4, .slice b 3 d] w (RGateRes w base q vars cs a (M.mostC ((vars : Int) + 1) x y z)) := by
  obtain ⟨bb, off, rfl, hbl, _⟩ := hz.addr (by simp)
  have hvv := hF.vars
  have hlits := M.own_isLit hvv hown
  have hlx := (M.isLit_iff x).1 (hlits x (by simp))
  have hx1 : -20000 ≤ x := hlx.2.1
  have hx2 : x ≤ 20000 := hlx.2.2
  have hly := (M.isLit_iff y).1 (hlits y (by simp))
  have hy1 : -20000 ≤ y := hly.2.1
  have hy2 : y ≤ 20000 := hly.2.2
  have hlz := (M.isLit_iff z).1 (hlits z (by simp))
  have hz1 : -20000 ≤ z := hlz.2.1
  have hz2 : z ≤ 20000 := hlz.2.2
  have ho := rown_any q vars (some ⟨bb, off, none⟩) d [x, y, z] w hF.cell0 hvv hz
  rw [hown] at ho
  have HO := Lib.hid ho
  have HLI := Lib.hid hlits
  have h0 := hF.cell0
  have hw0 : IntKind.i64.wrap (-((vars : Int) + 1)) = -((vars : Int) + 1) := by rw [IntKind.wrap_i64]; omega
  have hwx : IntKind.i64.wrap (-x) = -x := by rw [IntKind.wrap_i64]; omega
  have hwy : IntKind.i64.wrap (-y) = -y := by rw [IntKind.wrap_i64]; omega
  have hwz : IntKind.i64.wrap (-z) = -z := by rw [IntKind.wrap_i64]; omega
  obtain ⟨t0, t1, t2⟩ := hz.cells3
  have HF := Lib.hid hF
  have HBS := Lib.hid hb
  clear ho hown hlits hlx hly hlz hF hz
  go_enter Tryd.func11, Tryd.ntmps11
  go_wp2_with (go_at_call 37; refine HO.out.mono ?_; rintro e w' ⟨rfl, rfl⟩)
  have hbW : Below w.heap.size w ((w.alloc (Obj.cells #[] 30)).alloc (Obj.cells #[] 3)) := ((Below.refl _ _).alloc (Nat.le_refl _) _).alloc (by simp) _
  generalize hW : ((w.alloc (Obj.cells #[] 30)).alloc (Obj.cells #[] 3)) = W at *
  clear hW
  have r0 : W.cell? ⟨bb, off, none⟩ = some (.int .i64 x) := (hbW.cell (p := ⟨bb, off, none⟩) hbl).trans t0
  have r1 : W.cell? ⟨bb, off + 1, none⟩ = some (.int .i64 y) := (hbW.cell (p := ⟨bb, off + 1, none⟩) hbl).trans t1
  have r2 : W.cell? ⟨bb, off + 2, none⟩ = some (.int .i64 z) := (hbW.cell (p := ⟨bb, off + 2, none⟩) hbl).trans t2
  have hsc : ∀ wx, Below w.heap.size w wx → wx.cell? ⟨bb, off, none⟩ = some (.int .i64 x) ∧ wx.cell? ⟨bb, off + 1, none⟩ = some (.int .i64 y) ∧ wx.cell? ⟨bb, off + 2, none⟩ = some (.int .i64 z) := fun wx hb => ⟨(hb.cell (p := ⟨bb, off, none⟩) hbl).trans t0, (hb.cell (p := ⟨bb, off + 1, none⟩) hbl).trans t1, (hb.cell (p := ⟨bb, off + 2, none⟩) hbl).trans t2⟩
  have HSC := Lib.hid hsc
  have HBW := Lib.hid hbW
  clear t0 t1 t2 hsc
  refine wp_region_held_drew (S := fun w' => (w'.cell? ⟨bb, off, none⟩ = some (.int .i64 x) ∧ w'.cell? ⟨bb, off + 1, none⟩ = some (.int .i64 y) ∧ w'.cell? ⟨bb, off + 2, none⟩ = some (.int .i64 z)) ∧ Below w.heap.size w w') (by kernel_rfl) ⟨HSC.out _ hbW.drew, hbW.drew⟩ (fun hHeld => ?_)
  clear hbW
  refine wpAnyH_take (i := 0) (oi := _) (v := ?_) rfl (by kernel_rfl) (by kernel_rfl) (by kernel_rfl) (fun _ _ _ h => h) (Or.inl ⟨by rfl, ?_⟩) (by assumption) ?_
  rotate_left
  · intro w hSw
    try dsimp only at hSw
    go_simp
    try with_reducible rfl
  try simp only [Act.put, List.setIfInBounds_toArray, List.set_cons_zero, List.set_cons_succ, List.getElem_toArray, List.getElem_cons_zero]
  refine wpAnyH_take (i := 1) (oi := _) (v := ?_) rfl (by kernel_rfl) (by kernel_rfl) (by kernel_rfl) (fun _ _ _ h => h) (Or.inl ⟨by rfl, ?_⟩) (by assumption) ?_
  rotate_left
  · intro w hSw
    try dsimp only at hSw
    go_simp
    try with_reducible rfl
  try simp only [Act.put, List.setIfInBounds_toArray, List.set_cons_zero, List.set_cons_succ, List.getElem_toArray, List.getElem_cons_zero, List.getElem_cons_succ]
  refine wpAnyH_take (i := 2) (oi := _) (v := ?_) rfl (by kernel_rfl) (by kernel_rfl) (by kernel_rfl) (fun _ _ _ h => h) (Or.inl ⟨by rfl, ?_⟩) (by assumption) ?_
  rotate_left
  · intro w hSw
    try dsimp only at hSw
    go_simp
    try with_reducible rfl
  try simp only [Act.put, List.setIfInBounds_toArray, List.set_cons_zero, List.set_cons_succ, List.getElem_toArray, List.getElem_cons_zero, List.getElem_cons_succ]
  refine wpAnyH_take (i := 3) (oi := _) (v := ?_) rfl (by kernel_rfl) (by kernel_rfl) (by kernel_rfl) (fun _ _ _ h => h) (Or.inl ⟨by rfl, ?_⟩) (by assumption) ?_
  rotate_left
  · intro w hSw
    try dsimp only at hSw
    go_simp
    try with_reducible rfl
  try simp only [Act.put, List.setIfInBounds_toArray, List.set_cons_zero, List.set_cons_succ, List.getElem_toArray, List.getElem_cons_zero, List.getElem_cons_succ]
  refine wpAnyH_take (i := 4) (oi := _) (v := ?_) rfl (by kernel_rfl) (by kernel_rfl) (by kernel_rfl) (fun _ _ _ h => h) (Or.inl ⟨by rfl, ?_⟩) (by assumption) ?_
  rotate_left
  · intro w hSw
    try dsimp only at hSw
    go_simp
    try with_reducible rfl
  try simp only [Act.put, List.setIfInBounds_toArray, List.set_cons_zero, List.set_cons_succ, List.getElem_toArray, List.getElem_cons_zero, List.getElem_cons_succ]
  refine wpAnyH_take (i := 5) (oi := _) (v := ?_) rfl (by kernel_rfl) (by kernel_rfl) (by kernel_rfl) (fun _ _ _ h => h) (Or.inl ⟨by rfl, ?_⟩) (by assumption) ?_
  rotate_left
  · intro w hSw
    try dsimp only at hSw
    go_simp
    try with_reducible rfl
  try simp only [Act.put, List.setIfInBounds_toArray, List.set_cons_zero, List.set_cons_succ, List.getElem_toArray, List.getElem_cons_zero, List.getElem_cons_succ]
  refine wpAnyH_take (i := 6) (oi := _) (v := ?_) rfl (by kernel_rfl) (by kernel_rfl) (by kernel_rfl) (fun _ _ _ h => h) (Or.inl ⟨by rfl, ?_⟩) (by assumption) ?_
  rotate_left
  · intro w hSw
    try dsimp only at hSw
    go_simp
    try with_reducible rfl
  try simp only [Act.put, List.setIfInBounds_toArray, List.set_cons_zero, List.set_cons_succ, List.getElem_toArray, List.getElem_cons_zero, List.getElem_cons_succ]
  refine wpAnyH_take (i := 7) (oi := _) (v := ?_) rfl (by kernel_rfl) (by kernel_rfl) (by kernel_rfl) (fun _ _ _ h => h) (Or.inl ⟨by rfl, ?_⟩) (by assumption) ?_
  rotate_left
  · intro w hSw
    try dsimp only at hSw
    go_simp
    try with_reducible rfl
  try simp only [Act.put, List.setIfInBounds_toArray, List.set_cons_zero, List.set_cons_succ, List.getElem_toArray, List.getElem_cons_zero, List.getElem_cons_succ]
  refine wpAnyH_take (i := 9) (oi := _) (v := ?_) rfl (by kernel_rfl) (by kernel_rfl) (by kernel_rfl) (fun _ _ _ h => h) (Or.inl ⟨by rfl, ?_⟩) (by assumption) ?_
  rotate_left
  · intro w hSw
    try dsimp only at hSw
    go_simp
    try with_reducible rfl
  try simp only [Act.put, List.setIfInBounds_toArray, List.set_cons_zero, List.set_cons_succ, List.getElem_toArray, List.getElem_cons_zero, List.getElem_cons_succ]
  refine wpAnyH_take (i := 10) (oi := _) (v := ?_) rfl (by kernel_rfl) (by kernel_rfl) (by kernel_rfl) (fun _ _ _ h => h) (Or.inl ⟨by rfl, ?_⟩) (by assumption) ?_
  rotate_left
  · intro w hSw
    try dsimp only at hSw
    go_simp
    try with_reducible rfl
  try simp only [Act.put, List.setIfInBounds_toArray, List.set_cons_zero, List.set_cons_succ, List.getElem_toArray, List.getElem_cons_zero, List.getElem_cons_succ]
  refine wpAnyH_take (i := 11) (oi := _) (v := ?_) rfl (by kernel_rfl) (by kernel_rfl) (by kernel_rfl) (fun _ _ _ h => h) (Or.inl ⟨by rfl, ?_⟩) (by assumption) ?_
  rotate_left
  · intro w hSw
    try dsimp only at hSw
    go_simp
    try with_reducible rfl
  try simp only [Act.put, List.setIfInBounds_toArray, List.set_cons_zero, List.set_cons_succ, List.getElem_toArray, List.getElem_cons_zero, List.getElem_cons_succ]
  refine wpAnyH_take (i := 12) (oi := _) (v := ?_) rfl (by kernel_rfl) (by kernel_rfl) (by kernel_rfl) (fun _ _ _ h => h) (Or.inl ⟨by rfl, ?_⟩) (by assumption) ?_
  rotate_left
  · intro w hSw
    try dsimp only at hSw
    go_simp
    try with_reducible rfl
  try simp only [Act.put, List.setIfInBounds_toArray, List.set_cons_zero, List.set_cons_succ, List.getElem_toArray, List.getElem_cons_zero, List.getElem_cons_succ]
  refine wpAnyH_take (i := 13) (oi := _) (v := ?_) rfl (by kernel_rfl) (by kernel_rfl) (by kernel_rfl) (fun _ _ _ h => h) (Or.inl ⟨by rfl, ?_⟩) (by assumption) ?_
  rotate_left
  · intro w hSw
    try dsimp only at hSw
    go_simp
    try with_reducible rfl
  try simp only [Act.put, List.setIfInBounds_toArray, List.set_cons_zero, List.set_cons_succ, List.getElem_toArray, List.getElem_cons_zero, List.getElem_cons_succ]
  refine wpAnyH_take (i := 14) (oi := _) (v := ?_) rfl (by kernel_rfl) (by kernel_rfl) (by kernel_rfl) (fun _ _ _ h => h) (Or.inl ⟨by rfl, ?_⟩) (by assumption) ?_
  rotate_left
  · intro w hSw
    try dsimp only at hSw
    go_simp
    try with_reducible rfl
  try simp only [Act.put, List.setIfInBounds_toArray, List.set_cons_zero, List.set_cons_succ, List.getElem_toArray, List.getElem_cons_zero, List.getElem_cons_succ]
  refine wpAnyH_take (i := 15) (oi := _) (v := ?_) rfl (by kernel_rfl) (by kernel_rfl) (by kernel_rfl) (fun _ _ _ h => h) (Or.inl ⟨by rfl, ?_⟩) (by assumption) ?_
  rotate_left
  · intro w hSw
    try dsimp only at hSw
    go_simp
    try with_reducible rfl
  try simp only [Act.put, List.setIfInBounds_toArray, List.set_cons_zero, List.set_cons_succ, List.getElem_toArray, List.getElem_cons_zero, List.getElem_cons_succ]
  refine wpAnyH_take (i := 16) (oi := _) (v := ?_) rfl (by kernel_rfl) (by kernel_rfl) (by kernel_rfl) (fun _ _ _ h => h) (Or.inl ⟨by rfl, ?_⟩) (by assumption) ?_
  rotate_left
  · intro w hSw
    try dsimp only at hSw
    go_simp
    try with_reducible rfl
  try simp only [Act.put, List.setIfInBounds_toArray, List.set_cons_zero, List.set_cons_succ, List.getElem_toArray, List.getElem_cons_zero, List.getElem_cons_succ]
  refine wpAnyH_take (i := 18) (oi := _) (v := ?_) rfl (by kernel_rfl) (by kernel_rfl) (by kernel_rfl) (fun _ _ _ h => h) (Or.inl ⟨by rfl, ?_⟩) (by assumption) ?_
  rotate_left
  · intro w hSw
    try dsimp only at hSw
    go_simp
    try with_reducible rfl
  try simp only [Act.put, List.setIfInBounds_toArray, List.set_cons_zero, List.set_cons_succ, List.getElem_toArray, List.getElem_cons_zero, List.getElem_cons_succ]
  refine wpAnyH_take (i := 19) (oi := _) (v := ?_) rfl (by kernel_rfl) (by kernel_rfl) (by kernel_rfl) (fun _ _ _ h => h) (Or.inl ⟨by rfl, ?_⟩) (by assumption) ?_
  rotate_left
  · intro w hSw
    try dsimp only at hSw
    go_simp
    try with_reducible rfl
  try simp only [Act.put, List.setIfInBounds_toArray, List.set_cons_zero, List.set_cons_succ, List.getElem_toArray, List.getElem_cons_zero, List.getElem_cons_succ]
  refine wpAnyH_take (i := 20) (oi := _) (v := ?_) rfl (by kernel_rfl) (by kernel_rfl) (by kernel_rfl) (fun _ _ _ h => h) (Or.inl ⟨by rfl, ?_⟩) (by assumption) ?_
  rotate_left
  · intro w hSw
    try dsimp only at hSw
    go_simp
    try with_reducible rfl
  try simp only [Act.put, List.setIfInBounds_toArray, List.set_cons_zero, List.set_cons_succ, List.getElem_toArray, List.getElem_cons_zero, List.getElem_cons_succ]
  refine wpAnyH_take (i := 21) (oi := _) (v := ?_) rfl (by kernel_rfl) (by kernel_rfl) (by kernel_rfl) (fun _ _ _ h => h) (Or.inl ⟨by rfl, ?_⟩) (by assumption) ?_
  rotate_left
  · intro w hSw
    try dsimp only at hSw
    go_simp
    try with_reducible rfl
  try simp only [Act.put, List.setIfInBounds_toArray, List.set_cons_zero, List.set_cons_succ, List.getElem_toArray, List.getElem_cons_zero, List.getElem_cons_succ]
  refine wpAnyH_take (i := 22) (oi := _) (v := ?_) rfl (by kernel_rfl) (by kernel_rfl) (by kernel_rfl) (fun _ _ _ h => h) (Or.inl ⟨by rfl, ?_⟩) (by assumption) ?_
  rotate_left
  · intro w hSw
    try dsimp only at hSw
    go_simp
    try with_reducible rfl
  try simp only [Act.put, List.setIfInBounds_toArray, List.set_cons_zero, List.set_cons_succ, List.getElem_toArray, List.getElem_cons_zero, List.getElem_cons_succ]
  refine wpAnyH_take (i := 23) (oi := _) (v := ?_) rfl (by kernel_rfl) (by kernel_rfl) (by kernel_rfl) (fun _ _ _ h => h) (Or.inl ⟨by rfl, ?_⟩) (by assumption) ?_
  rotate_left
  · intro w hSw
    try dsimp only at hSw
    go_simp
    try with_reducible rfl
  try simp only [Act.put, List.setIfInBounds_toArray, List.set_cons_zero, List.set_cons_succ, List.getElem_toArray, List.getElem_cons_zero, List.getElem_cons_succ]
  refine wpAnyH_take (i := 24) (oi := _) (v := ?_) rfl (by kernel_rfl) (by kernel_rfl) (by kernel_rfl) (fun _ _ _ h => h) (Or.inl ⟨by rfl, ?_⟩) (by assumption) ?_
  rotate_left
  · intro w hSw
    try dsimp only at hSw
    go_simp
    try with_reducible rfl
  try simp only [Act.put, List.setIfInBounds_toArray, List.set_cons_zero, List.set_cons_succ, List.getElem_toArray, List.getElem_cons_zero, List.getElem_cons_succ]
  refine wpAnyH_take (i := 25) (oi := _) (v := ?_) rfl (by kernel_rfl) (by kernel_rfl) (by kernel_rfl) (fun _ _ _ h => h) (Or.inl ⟨by rfl, ?_⟩) (by assumption) ?_
  rotate_left
  · intro w hSw
    try dsimp only at hSw
    go_simp
    try with_reducible rfl
  try simp only [Act.put, List.setIfInBounds_toArray, List.set_cons_zero, List.set_cons_succ, List.getElem_toArray, List.getElem_cons_zero, List.getElem_cons_succ]
  refine wpAnyH_take (i := 27) (oi := _) (v := ?_) rfl (by kernel_rfl) (by kernel_rfl) (by kernel_rfl) (fun _ _ _ h => h) (Or.inl ⟨by rfl, ?_⟩) (by assumption) ?_
  rotate_left
  · intro w hSw
    try dsimp only at hSw
    go_simp
    try with_reducible rfl
  try simp only [Act.put, List.setIfInBounds_toArray, List.set_cons_zero, List.set_cons_succ, List.getElem_toArray, List.getElem_cons_zero, List.getElem_cons_succ]
  refine wpAnyH_take (i := 28) (oi := _) (v := ?_) rfl (by kernel_rfl) (by kernel_rfl) (by kernel_rfl) (fun _ _ _ h => h) (Or.inl ⟨by rfl, ?_⟩) (by assumption) ?_
  rotate_left
  · intro w hSw
    try dsimp only at hSw
    go_simp
    try with_reducible rfl
  try simp only [Act.put, List.setIfInBounds_toArray, List.set_cons_zero, List.set_cons_succ, List.getElem_toArray, List.getElem_cons_zero, List.getElem_cons_succ]
  refine wpAnyH_take (i := 29) (oi := _) (v := ?_) rfl (by kernel_rfl) (by kernel_rfl) (by kernel_rfl) (fun _ _ _ h => h) (Or.inl ⟨by rfl, ?_⟩) (by assumption) ?_
  rotate_left
  · intro w hSw
    try dsimp only at hSw
    go_simp
    try with_reducible rfl
  try simp only [Act.put, List.setIfInBounds_toArray, List.set_cons_zero, List.set_cons_succ, List.getElem_toArray, List.getElem_cons_zero, List.getElem_cons_succ]
  refine wpAnyH_take (i := 30) (oi := _) (v := ?_) rfl (by kernel_rfl) (by kernel_rfl) (by kernel_rfl) (fun _ _ _ h => h) (Or.inl ⟨by rfl, ?_⟩) (by assumption) ?_
  rotate_left
  · intro w hSw
    try dsimp only at hSw
    go_simp
    try with_reducible rfl
  try simp only [Act.put, List.setIfInBounds_toArray, List.set_cons_zero, List.set_cons_succ, List.getElem_toArray, List.getElem_cons_zero, List.getElem_cons_succ]
  refine wpAnyH_take (i := 31) (oi := _) (v := ?_) rfl (by kernel_rfl) (by kernel_rfl) (by kernel_rfl) (fun _ _ _ h => h) (Or.inl ⟨by rfl, ?_⟩) (by assumption) ?_
  rotate_left
  · intro w hSw
    try dsimp only at hSw
    go_simp
    try with_reducible rfl
  try simp only [Act.put, List.setIfInBounds_toArray, List.set_cons_zero, List.set_cons_succ, List.getElem_toArray, List.getElem_cons_zero, List.getElem_cons_succ]
  refine wpAnyH_take (i := 32) (oi := _) (v := ?_) rfl (by kernel_rfl) (by kernel_rfl) (by kernel_rfl) (fun _ _ _ h => h) (Or.inl ⟨by rfl, ?_⟩) (by assumption) ?_
  rotate_left
  · intro w hSw
    try dsimp only at hSw
    go_simp
    try with_reducible rfl
  try simp only [Act.put, List.setIfInBounds_toArray, List.set_cons_zero, List.set_cons_succ, List.getElem_toArray, List.getElem_cons_zero, List.getElem_cons_succ]
  refine wpAnyH_take (i := 33) (oi := _) (v := ?_) rfl (by kernel_rfl) (by kernel_rfl) (by kernel_rfl) (fun _ _ _ h => h) (Or.inl ⟨by rfl, ?_⟩) (by assumption) ?_
  rotate_left
  · intro w hSw
    try dsimp only at hSw
    go_simp
    try with_reducible rfl
  try simp only [Act.put, List.setIfInBounds_toArray, List.set_cons_zero, List.set_cons_succ, List.getElem_toArray, List.getElem_cons_zero, List.getElem_cons_succ]
  refine wpAnyH_take (i := 34) (oi := _) (v := ?_) rfl (by kernel_rfl) (by kernel_rfl) (by kernel_rfl) (fun _ _ _ h => h) (Or.inl ⟨by rfl, ?_⟩) (by assumption) ?_
  rotate_left
  · intro w hSw
    try dsimp only at hSw
    go_simp
    try with_reducible rfl
  try simp only [Act.put, List.setIfInBounds_toArray, List.set_cons_zero, List.set_cons_succ, List.getElem_toArray, List.getElem_cons_zero, List.getElem_cons_succ]
  refine wpAnyH_take (i := 35) (oi := _) (v := ?_) rfl (by kernel_rfl) (by kernel_rfl) (by kernel_rfl) (fun _ _ _ h => h) (Or.inl ⟨by rfl, ?_⟩) (by assumption) ?_
  rotate_left
  · intro w hSw
    try dsimp only at hSw
    go_simp
    try with_reducible rfl
  try simp only [Act.put, List.setIfInBounds_toArray, List.set_cons_zero, List.set_cons_succ, List.getElem_toArray, List.getElem_cons_zero, List.getElem_cons_succ]
  refine wpAnyH_take (i := 37) (oi := _) (v := ?_) rfl (by kernel_rfl) (by kernel_rfl) (by kernel_rfl) (fun _ _ _ h => h) (Or.inl ⟨by rfl, ?_⟩) (by assumption) ?_
  rotate_left
  · intro w hSw
    try dsimp only at hSw
    go_simp
    try with_reducible rfl
  try simp only [Act.put, List.setIfInBounds_toArray, List.set_cons_zero, List.set_cons_succ, List.getElem_toArray, List.getElem_cons_zero, List.getElem_cons_succ]
  refine wpAnyH_take (i := 38) (oi := _) (v := ?_) rfl (by kernel_rfl) (by kernel_rfl) (by kernel_rfl) (fun _ _ _ h => h) (Or.inl ⟨by rfl, ?_⟩) (by assumption) ?_
  rotate_left
  · intro w hSw
    try dsimp only at hSw
    go_simp
    try with_reducible rfl
  try simp only [Act.put, List.setIfInBounds_toArray, List.set_cons_zero, List.set_cons_succ, List.getElem_toArray, List.getElem_cons_zero, List.getElem_cons_succ]
  refine wpAnyH_take (i := 39) (oi := _) (v := ?_) rfl (by kernel_rfl) (by kernel_rfl) (by kernel_rfl) (fun _ _ _ h => h) (Or.inl ⟨by rfl, ?_⟩) (by assumption) ?_
  rotate_left
  · intro w hSw
    try dsimp only at hSw
    go_simp
    try with_reducible rfl
  try simp only [Act.put, List.setIfInBounds_toArray, List.set_cons_zero, List.set_cons_succ, List.getElem_toArray, List.getElem_cons_zero, List.getElem_cons_succ]
  refine wpAnyH_take (i := 40) (oi := _) (v := ?_) rfl (by kernel_rfl) (by kernel_rfl) (by kernel_rfl) (fun _ _ _ h => h) (Or.inl ⟨by rfl, ?_⟩) (by assumption) ?_
  rotate_left
  · intro w hSw
    try dsimp only at hSw
    go_simp
    try with_reducible rfl
  try simp only [Act.put, List.setIfInBounds_toArray, List.set_cons_zero, List.set_cons_succ, List.getElem_toArray, List.getElem_cons_zero, List.getElem_cons_succ]
  refine wpAnyH_take (i := 41) (oi := _) (v := ?_) rfl (by kernel_rfl) (by kernel_rfl) (by kernel_rfl) (fun _ _ _ h => h) (Or.inl ⟨by rfl, ?_⟩) (by assumption) ?_
  rotate_left
  · intro w hSw
    try dsimp only at hSw
    go_simp
    try with_reducible rfl
  try simp only [Act.put, List.setIfInBounds_toArray, List.set_cons_zero, List.set_cons_succ, List.getElem_toArray, List.getElem_cons_zero, List.getElem_cons_succ]
  refine wpAnyH_take (i := 42) (oi := _) (v := ?_) rfl (by kernel_rfl) (by kernel_rfl) (by kernel_rfl) (fun _ _ _ h => h) (Or.inl ⟨by rfl, ?_⟩) (by assumption) ?_
  rotate_left
  · intro w hSw
    try dsimp only at hSw
    go_simp
    try with_reducible rfl
  try simp only [Act.put, List.setIfInBounds_toArray, List.set_cons_zero, List.set_cons_succ, List.getElem_toArray, List.getElem_cons_zero, List.getElem_cons_succ]
  refine wpAnyH_take (i := 43) (oi := _) (v := ?_) rfl (by kernel_rfl) (by kernel_rfl) (by kernel_rfl) (fun _ _ _ h => h) (Or.inl ⟨by rfl, ?_⟩) (by assumption) ?_
  rotate_left
  · intro w hSw
    try dsimp only at hSw
    go_simp
    try with_reducible rfl
  try simp only [Act.put, List.setIfInBounds_toArray, List.set_cons_zero, List.set_cons_succ, List.getElem_toArray, List.getElem_cons_zero, List.getElem_cons_succ]
  refine wpAnyH_take (i := 44) (oi := _) (v := ?_) rfl (by kernel_rfl) (by kernel_rfl) (by kernel_rfl) (fun _ _ _ h => h) (Or.inl ⟨by rfl, ?_⟩) (by assumption) ?_
  rotate_left
  · intro w hSw
    try dsimp only at hSw
    go_simp
    try with_reducible rfl
  try simp only [Act.put, List.setIfInBounds_toArray, List.set_cons_zero, List.set_cons_succ, List.getElem_toArray, List.getElem_cons_zero, List.getElem_cons_succ]
  refine wpAnyH_take (i := 45) (oi := _) (v := ?_) rfl (by kernel_rfl) (by kernel_rfl) (by kernel_rfl) (fun _ _ _ h => h) (Or.inl ⟨by rfl, ?_⟩) (by assumption) ?_
  rotate_left
  · intro w hSw
    try dsimp only at hSw
    go_simp
    try with_reducible rfl
  try simp only [Act.put, List.setIfInBounds_toArray, List.set_cons_zero, List.set_cons_succ, List.getElem_toArray, List.getElem_cons_zero, List.getElem_cons_succ]
  refine wpAnyH_take (i := 47) (oi := _) (v := ?_) rfl (by kernel_rfl) (by kernel_rfl) (by kernel_rfl) (fun _ _ _ h => h) (Or.inl ⟨by rfl, ?_⟩) (by assumption) ?_
  rotate_left
  · intro w hSw
    try dsimp only at hSw
    go_simp
    try with_reducible rfl
  try simp only [Act.put, List.setIfInBounds_toArray, List.set_cons_zero, List.set_cons_succ, List.getElem_toArray, List.getElem_cons_zero, List.getElem_cons_succ]
  refine wpAnyH_take (i := 48) (oi := _) (v := ?_) rfl (by kernel_rfl) (by kernel_rfl) (by kernel_rfl) (fun _ _ _ h => h) (Or.inl ⟨by rfl, ?_⟩) (by assumption) ?_
  rotate_left
  · intro w hSw
    try dsimp only at hSw
    go_simp
    try with_reducible rfl
  try simp only [Act.put, List.setIfInBounds_toArray, List.set_cons_zero, List.set_cons_succ, List.getElem_toArray, List.getElem_cons_zero, List.getElem_cons_succ]
  refine wpAnyH_take (i := 49) (oi := _) (v := ?_) rfl (by kernel_rfl) (by kernel_rfl) (by kernel_rfl) (fun _ _ _ h => h) (Or.inl ⟨by rfl, ?_⟩) (by assumption) ?_
  rotate_left
  · intro w hSw
    try dsimp only at hSw
    go_simp
    try with_reducible rfl
  try simp only [Act.put, List.setIfInBounds_toArray, List.set_cons_zero, List.set_cons_succ, List.getElem_toArray, List.getElem_cons_zero, List.getElem_cons_succ]
  refine wpAnyH_take (i := 50) (oi := _) (v := ?_) rfl (by kernel_rfl) (by kernel_rfl) (by kernel_rfl) (fun _ _ _ h => h) (Or.inl ⟨by rfl, ?_⟩) (by assumption) ?_
  rotate_left
  · intro w hSw
    try dsimp only at hSw
    go_simp
    try with_reducible rfl
  try simp only [Act.put, List.setIfInBounds_toArray, List.set_cons_zero, List.set_cons_succ, List.getElem_toArray, List.getElem_cons_zero, List.getElem_cons_succ]
  refine wpAnyH_take (i := 51) (oi := _) (v := ?_) rfl (by kernel_rfl) (by kernel_rfl) (by kernel_rfl) (fun _ _ _ h => h) (Or.inl ⟨by rfl, ?_⟩) (by assumption) ?_
  rotate_left
  · intro w hSw
    try dsimp only at hSw
    go_simp
    try with_reducible rfl
  try simp only [Act.put, List.setIfInBounds_toArray, List.set_cons_zero, List.set_cons_succ, List.getElem_toArray, List.getElem_cons_zero, List.getElem_cons_succ]
  refine wpAnyH_take (i := 52) (oi := _) (v := ?_) rfl (by kernel_rfl) (by kernel_rfl) (by kernel_rfl) (fun _ _ _ h => h) (Or.inl ⟨by rfl, ?_⟩) (by assumption) ?_
  rotate_left
  · intro w hSw
    try dsimp only at hSw
    go_simp
    try with_reducible rfl
  try simp only [Act.put, List.setIfInBounds_toArray, List.set_cons_zero, List.set_cons_succ, List.getElem_toArray, List.getElem_cons_zero, List.getElem_cons_succ]
  refine wpAnyH_take (i := 53) (oi := _) (v := ?_) rfl (by kernel_rfl) (by kernel_rfl) (by kernel_rfl) (fun _ _ _ h => h) (Or.inl ⟨by rfl, ?_⟩) (by assumption) ?_
  rotate_left
  · intro w hSw
    try dsimp only at hSw
    go_simp
    try with_reducible rfl
  try simp only [Act.put, List.setIfInBounds_toArray, List.set_cons_zero, List.set_cons_succ, List.getElem_toArray, List.getElem_cons_zero, List.getElem_cons_succ]
  refine wpAnyH_take (i := 54) (oi := _) (v := ?_) rfl (by kernel_rfl) (by kernel_rfl) (by kernel_rfl) (fun _ _ _ h => h) (Or.inl ⟨by rfl, ?_⟩) (by assumption) ?_
  rotate_left
  · intro w hSw
    try dsimp only at hSw
    go_simp
    try with_reducible rfl
  try simp only [Act.put, List.setIfInBounds_toArray, List.set_cons_zero, List.set_cons_succ, List.getElem_toArray, List.getElem_cons_zero, List.getElem_cons_succ]
  refine wpAnyH_take (i := 55) (oi := _) (v := ?_) rfl (by kernel_rfl) (by kernel_rfl) (by kernel_rfl) (fun _ _ _ h => h) (Or.inl ⟨by rfl, ?_⟩) (by assumption) ?_
  rotate_left
  · intro w hSw
    try dsimp only at hSw
    go_simp
    try with_reducible rfl
  try simp only [Act.put, List.setIfInBounds_toArray, List.set_cons_zero, List.set_cons_succ, List.getElem_toArray, List.getElem_cons_zero, List.getElem_cons_succ]
  clear hHeld
  refine Al.wpAnyH_allocs [(8, 136), (17, 145), (26, 154), (36, 164), (46, 174), (56, 184)] _ _ (RowAt (M.mostC ((vars : Int) + 1) x y z) w.heap.size) (by simp) (by kernel_rfl) ?hrun (fun k v w w' => RowAt.mono k v w w') 2 ?H 6 [none, none, none, none, none, none] W.drew rfl rfl (by intro k u hu; match k, hu with | 0, hu => simp at hu | 1, hu => simp at hu | 2, hu => simp at hu | 3, hu => simp at hu | 4, hu => simp at hu | 5, hu => simp at hu | k + 6, hu => simp at hu) ⟨HSC.out _ HBW.out.drew, HBW.out.drew⟩
  case hrun =>
    intro k i d h
    match k, h with
    | 0, h =>
      simp at h
      obtain ⟨rfl, rfl⟩ := h
      refine ⟨_, rfl, rfl, (fun _ _ h => by cases h), (by decide), (by rfl), fun w3 hS3 => ⟨.slice (some ⟨w3.heap.size, 0, none⟩) 3 3, w3.alloc (.cells #[.int .i64 (-((vars : Int) + 1)), .int .i64 (x), .int .i64 (y)] 3), by go_simp, RowAt.new w3 rfl rfl rfl (hS3.2.size), ⟨?_, hS3.2.alloc hS3.2.size _⟩, below_alloc (Below.refl _ _) _⟩⟩
      exact HSC.out _ (hS3.2.alloc hS3.2.size _)
    | 1, h =>
      simp at h
      obtain ⟨rfl, rfl⟩ := h
      refine ⟨_, rfl, rfl, (fun _ _ h => by cases h), (by decide), (by rfl), fun w3 hS3 => ⟨.slice (some ⟨w3.heap.size, 0, none⟩) 3 3, w3.alloc (.cells #[.int .i64 (-((vars : Int) + 1)), .int .i64 (x), .int .i64 (z)] 3), by go_simp, RowAt.new w3 rfl rfl rfl (hS3.2.size), ⟨?_, hS3.2.alloc hS3.2.size _⟩, below_alloc (Below.refl _ _) _⟩⟩
      exact HSC.out _ (hS3.2.alloc hS3.2.size _)
    | 2, h =>
      simp at h
      obtain ⟨rfl, rfl⟩ := h
      refine ⟨_, rfl, rfl, (fun _ _ h => by cases h), (by decide), (by rfl), fun w3 hS3 => ⟨.slice (some ⟨w3.heap.size, 0, none⟩) 3 3, w3.alloc (.cells #[.int .i64 (-((vars : Int) + 1)), .int .i64 (y), .int .i64 (z)] 3), by go_simp, RowAt.new w3 rfl rfl rfl (hS3.2.size), ⟨?_, hS3.2.alloc hS3.2.size _⟩, below_alloc (Below.refl _ _) _⟩⟩
      exact HSC.out _ (hS3.2.alloc hS3.2.size _)
    | 3, h =>
      simp at h
      obtain ⟨rfl, rfl⟩ := h
      refine ⟨_, rfl, rfl, (fun _ _ h => by cases h), (by decide), (by rfl), fun w3 hS3 => ⟨.slice (some ⟨w3.heap.size, 0, none⟩) 3 3, w3.alloc (.cells #[.int .i64 ((vars : Int) + 1), .int .i64 (-x), .int .i64 (-y)] 3), by go_simp, RowAt.new w3 rfl rfl rfl (hS3.2.size), ⟨?_, hS3.2.alloc hS3.2.size _⟩, below_alloc (Below.refl _ _) _⟩⟩
      exact HSC.out _ (hS3.2.alloc hS3.2.size _)
    | 4, h =>
      simp at h
      obtain ⟨rfl, rfl⟩ := h
      refine ⟨_, rfl, rfl, (fun _ _ h => by cases h), (by decide), (by rfl), fun w3 hS3 => ⟨.slice (some ⟨w3.heap.size, 0, none⟩) 3 3, w3.alloc (.cells #[.int .i64 ((vars : Int) + 1), .int .i64 (-x), .int .i64 (-z)] 3), by go_simp, RowAt.new w3 rfl rfl rfl (hS3.2.size), ⟨?_, hS3.2.alloc hS3.2.size _⟩, below_alloc (Below.refl _ _) _⟩⟩
      exact HSC.out _ (hS3.2.alloc hS3.2.size _)
    | 5, h =>
      simp at h
      obtain ⟨rfl, rfl⟩ := h
      refine ⟨_, rfl, rfl, (fun _ _ h => by cases h), (by decide), (by rfl), fun w3 hS3 => ⟨.slice (some ⟨w3.heap.size, 0, none⟩) 3 3, w3.alloc (.cells #[.int .i64 ((vars : Int) + 1), .int .i64 (-y), .int .i64 (-z)] 3), by go_simp, RowAt.new w3 rfl rfl rfl (hS3.2.size), ⟨?_, hS3.2.alloc hS3.2.size _⟩, below_alloc (Below.refl _ _) _⟩⟩
      exact HSC.out _ (hS3.2.alloc hS3.2.size _)
    | k + 6, h => simp at h
  case H =>
    intro us w3 hus hE hS
    obtain ⟨u0, u1, u2, u3, u4, u5, rfl⟩ := vals6 hus
    obtain ⟨b0, x0, _, rfl, _⟩ := hE 0 u0 rfl
    obtain ⟨b1, x1, _, rfl, _⟩ := hE 1 u1 rfl
    obtain ⟨b2, x2, _, rfl, _⟩ := hE 2 u2 rfl
    obtain ⟨b3, x3, _, rfl, _⟩ := hE 3 u3 rfl
    obtain ⟨b4, x4, _, rfl, _⟩ := hE 4 u4 rfl
    obtain ⟨b5, x5, _, rfl, _⟩ := hE 5 u5 rfl
    have HE := Lib.hid hE
    have HB3 := Lib.hid hS.2
    have hHeld := hS
    clear hE hS hus
    simp only [Al.fill, Al.mark, List.map_cons, List.map_nil, Act.put, List.setIfInBounds_toArray, List.set_cons_zero, List.set_cons_succ]
    refine wpAnyH_ready (rs := [57]) (by kernel_rfl) (by simp) ?_
    refine AllReadyH.cons (o := _) rfl (fun K hK => ?_) AllReadyH.nil
    go_simp
    have hbo := HB3.out.alloc HB3.out.size (.cells #[.slice (some ⟨b0, 0, none⟩) x0.length x0.length, .slice (some ⟨b1, 0, none⟩) x1.length x1.length, .slice (some ⟨b2, 0, none⟩) x2.length x2.length, .slice (some ⟨b3, 0, none⟩) x3.length x3.length, .slice (some ⟨b4, 0, none⟩) x4.length x4.length, .slice (some ⟨b5, 0, none⟩) x5.length x5.length] 30)
    refine hK.out _ _ ⟨HSC.out _ hbo, hbo⟩ (fun hHeld => ?_)
    clear hK K
    try simp only [List.setIfInBounds_toArray]
    refine wpAnyH_take (i := 58) (oi := _) (v := ?_) rfl (by kernel_rfl) (by kernel_rfl) (by kernel_rfl) (fun _ _ _ h => h) (Or.inl ⟨by rfl, ?_⟩) (by assumption) ?_
    rotate_left
    · intro w hSw
      try dsimp only at hSw
      go_simp
      try with_reducible rfl
    refine wpAnyH_done (by kernel_rfl) ?_ _
    clear hHeld
    have hL := OwnL.listed w3 base w.heap.size (Nat.le_trans HBS.out HB3.out.size) (M.mostC ((vars : Int) + 1) x y z) [.slice (some ⟨b0, 0, none⟩) x0.length x0.length, .slice (some ⟨b1, 0, none⟩) x1.length x1.length, .slice (some ⟨b2, 0, none⟩) x2.length x2.length, .slice (some ⟨b3, 0, none⟩) x3.length x3.length, .slice (some ⟨b4, 0, none⟩) x4.length x4.length, .slice (some ⟨b5, 0, none⟩) x5.length x5.length] rfl HE.out (rgate_i64most (by omega) (by omega) (by omega) (by omega) (by omega) (by omega) (by omega) (by omega)) 6 rfl (by omega)
    have HLX := Lib.hid hL
    have HBX := Lib.hid hbo
    clear hL hbo
    by_cases hv : vars < 20000
    · have hd1 : decide ((20000 : Int) < (vars : Int) + 1) = false := by simp; omega
      have hgd : decide ((200000 : Int) - (cs.length : Int) < 6) = false := by simp; omega
      have hc1 := (HF.out.below HBX.out).cell1
      have hc0 := (HF.out.below HBX.out).cell0
      have hf0 := (HF.out.below HBX.out).frozen 0
      have HPUT := Lib.hid (rgate_put HF.out HBS.out HBX.out HLX.out (show _ = 6 from rfl) hv (rgate_litsmost HLI.out hv) (by omega))
      have HV := Lib.hid hv
      clear hv
      go_wp2_with (go_at_call 38; refine HPUT.out.mono ?_; rintro e w8 ⟨rfl, hp⟩; have HPO := Lib.hid hp; clear hp)
      go_ret2
      exact .inl ⟨HV.out, rfl, HPO.out⟩
    · have hd1 : decide ((20000 : Int) < (vars : Int) + 1) = true := by simp; omega
      have HV := Lib.hid hv
      clear hv
      go_wp2
      go_ret2
      exact .inr ⟨HV.out, rfl, HBX.out⟩
end Go.Proofs.YtgpifbhfnbkgoaaDoor
namespace Go.Proofs.YtgpifbhfnbkgoaaDoor
open Go.RowKit Go.Shelf
variable {X : Nat → Prop}

/-- what is neither of a formula nor a row of clauses stands -/
structure Fr (base : Nat) (W W2 : World) : Prop where
  size : W.heap.size ≤ W2.heap.size
  block : ∀ k, k < W.heap.size → (k < base ∨ ∃ cur e m, W.heap[k]? = some (.cells cur e m) ∧ e ≠ 73 ∧ e ≠ 75 ∧ e ≠ 29) → W2.heap[k]? = W.heap[k]?
theorem Fr.refl (base : Nat) (W : World) : Fr base W W := ⟨Nat.le_refl _, fun _ _ _ => rfl⟩
theorem Fr.of_below {base : Nat} {W W2 : World} (h : Below W.heap.size W W2) : Fr base W W2 := ⟨h.size, fun k hk _ => h.block k hk⟩
theorem Fr.trans {base : Nat} {W W1 W2 : World} (h : Fr base W W1) (h2 : Fr base W1 W2) : Fr base W W2 :=
  ⟨Nat.le_trans h.size h2.size, fun k hk ho => by
    have e := h.block k hk ho
    rw [h2.block k (Nat.lt_of_lt_of_le hk h.size) ?_, e]
    rcases ho with ho | ⟨cur, t, m, hc, h1, h2, h3⟩
    · exact .inl ho
    · exact .inr ⟨cur, t, m, e.trans hc, h1, h2, h3⟩⟩
theorem Fr.of_kp {base : Nat} {W W2 : World} (h : Kp X base W W2) : Fr base W W2 := ⟨h.size, fun k hk ho => h.block k hk (by
  rcases ho with ho | ⟨cur, t, m, hc, h1, h2, _⟩
  · exact .inl ho
  · exact .inr (.inr ⟨cur, t, m, hc, h1, h2⟩))⟩
theorem Rf.notq {W : World} {base q V : Nat} {cs : List (List Int)} {b : Option Addr} {d : Nat} (h : Rf W base q V cs b d) {k : Nat} (ho : k < base ∨ ∃ cur e m, W.heap[k]? = some (.cells cur e m) ∧ e ≠ 73 ∧ e ≠ 29) : k ≠ q ∧ ∀ ad, b = some ad → k ≠ ad.block := by
  refine ⟨?_, ?_⟩
  · rintro rfl
    rcases ho with ho | ⟨cur, t, m, hc, h1, h2⟩
    · have := h.le; omega
    · rw [h.blk] at hc; cases hc; exact h2 rfl
  · rintro ad e rfl
    obtain ⟨h3, cur', hg⟩ := h.own.row ad e
    rcases ho with ho | ⟨cur, t, m, hc, h1, h2⟩
    · omega
    · rw [hg] at hc; cases hc; exact h1 rfl
theorem Fr.of_keeps {base q V : Nat} {W W2 : World} {cs : List (List Int)} {b : Option Addr} {d : Nat} (hF : Rf W base q V cs b d) (h : KeepsF q b W W2) : Fr base W W2 := ⟨h.size, fun k hk ho => by
  have := hF.notq (k := k) (ho.imp id fun ⟨cur, t, m, hc, h1, _, h3⟩ => ⟨cur, t, m, hc, h1, h3⟩)
  exact h.block k hk this.1 this.2⟩
theorem Fr.ints {base : Nat} {W W2 : World} (h : Fr base W W2) {b : Option Addr} {zs : List Int} (hz : Ints W b zs) (hk : KeptI W base (eff b zs)) (hb : base ≤ W.heap.size) : Ints W2 b zs ∧ KeptI W2 base (eff b zs) := by
  have key : ∀ ad, eff b zs = some ad → W2.heap[ad.block]? = W.heap[ad.block]? := by
    intro ad e
    rcases hk ad e with h1 | ⟨cur, m, hc⟩
    · exact h.block _ (by omega) (.inl h1)
    · exact h.block _ (Array.getElem?_eq_some_iff.1 hc).1 (.inr ⟨cur, _, m, hc, by decide, by decide, by decide⟩)
  exact ⟨hz.sameE h.size key, hk.same key⟩
theorem Fr.own {base base' c : Nat} {W W2 : World} (h : Fr base W W2) {a : Option Addr} {ys : List Int} (ho : OwnI W base' a c ys) : OwnI W2 base' a c ys :=
  ho.kept fun g cur hlt hc => h.block g hlt (.inr ⟨cur, _, _, hc, by decide, by decide, by decide⟩)
/-- the box of an operation -/
def OBox (W : World) (B : Nat) (kd n : Int) (la : Option Addr) (k lc : Nat) : Prop := W.heap[B]? = some (.cells #[.int .i64 kd, .int .i64 n, .slice la k lc] 32 (0, 0))
theorem OBox.fr {base B k lc : Nat} {kd n : Int} {la : Option Addr} {W W2 : World} (h : OBox W B kd n la k lc) (hf : Fr base W W2) : OBox W2 B kd n la k lc :=
  (hf.block B (Array.getElem?_eq_some_iff.1 h).1 (.inr ⟨_, _, _, h, by decide, by decide, by decide⟩)).trans h
theorem OBox.cells {B k lc : Nat} {kd n : Int} {la : Option Addr} {W : World} (h : OBox W B kd n la k lc) : W.cell? ⟨B, 0, none⟩ = some (.int .i64 kd) ∧ W.cell? ⟨B, 1, none⟩ = some (.int .i64 n) ∧ W.cell? ⟨B, 2, none⟩ = some (.slice la k lc) := by
  unfold OBox at h
  refine ⟨?_, ?_, ?_⟩ <;> rw [cell_of_cells h] <;> rfl
/-- both formulas -/
structure PS (w W : World) (p q V : Nat) (cs : List (List Int)) (V' : Nat) (cs' : List (List Int)) (b : Option Addr) (d : Nat) : Prop where
  below : Below w.heap.size w W
  fm : ∃ a c, Fm (Zof b) W w.heap.size p V cs a c
  rf : Rf W w.heap.size q V' cs' b d
theorem Rf.zlt {W : World} {base q V : Nat} {cs : List (List Int)} {b : Option Addr} {d : Nat} (h : Rf W base q V cs b d) : XLt (Zof b) W := by
  rintro k ⟨ad, e, rfl⟩
  obtain ⟨_, cur, hc⟩ := h.own.row ad e
  exact (Array.getElem?_eq_some_iff.1 hc).1
theorem Rf.kp {W W2 : World} {base q V : Nat} {cs : List (List Int)} {b : Option Addr} {d : Nat} (h : Rf W base q V cs b d) (hk : Kp (Zof b) base W W2) : Rf W2 base q V cs b d := by
  have key : ∀ k, k < W.heap.size → (Zof b k ∨ ∃ cur e m, W.heap[k]? = some (.cells cur e m) ∧ e ≠ 73 ∧ e ≠ 75) → W2.heap[k]? = W.heap[k]? := fun k hlt ho => hk.block k hlt (.inr ho)
  refine ⟨h.le, (key q h.lt (.inr ⟨_, _, _, h.blk, by decide, by decide⟩)).trans h.blk, ?_, h.vars, h.len⟩
  obtain ⟨hoff, vals, hr, hv⟩ := h.own
  refine ⟨hoff, vals, ⟨hr.1, ?_⟩, fun i y hy => ?_⟩
  · rcases hr.2 with h0 | ⟨g, cap, cur, e, hbg, hgg, r⟩
    · exact .inl h0
    · injection e with e1
      exact .inr ⟨g, cap, cur, by rw [e1]; congr, hbg, (key g (Array.getElem?_eq_some_iff.1 hgg).1 (.inl ⟨_, e1, rfl⟩)).trans hgg, r⟩
  · obtain ⟨a1, c1, e1, e2, e3, e4, e5⟩ := hv i y hy
    have k1 : ∀ ad, a1 = some ad → W2.heap[ad.block]? = W.heap[ad.block]? := by
      intro ad e
      obtain ⟨cur, m, hc⟩ := e3.tag ad e
      exact key _ (Array.getElem?_eq_some_iff.1 hc).1 (.inr ⟨cur, _, m, hc, by decide, by decide⟩)
    exact ⟨a1, c1, e1, e2.same hk.size k1, ⟨e3.off, e3.tag.same k1⟩, e4, e5⟩
/-- the program's formula goes on -/
theorem PS.code {w W W2 : World} {p q V V' V2 : Nat} {cs cs' cs2 : List (List Int)} {b : Option Addr} {d : Nat} (h : PS w W p q V cs V' cs' b d) (hp : FmPost (Zof b) W w.heap.size p V2 cs2 W2) : PS w W2 p q V2 cs2 V' cs' b d ∧ Fr w.heap.size W W2 := by
  obtain ⟨a', c', h1, h2⟩ := hp
  exact ⟨⟨h.below.trans (h2.below h.below.size), ⟨a', c', h1⟩, h.rf.kp h2⟩, Fr.of_kp h2⟩
/-- the document's formula goes on -/
theorem PS.ref {w W W2 : World} {p q V V' V2 : Nat} {cs cs' cs2 : List (List Int)} {b : Option Addr} {d : Nat} (h : PS w W p q V cs V' cs' b d) (hp : RPost W w.heap.size q b V2 cs2 W2) : ∃ b' d', PS w W2 p q V cs V2 cs2 b' d' ∧ Fr w.heap.size W W2 := by
  obtain ⟨b', d', h1, h2, h3⟩ := hp
  obtain ⟨a, c, hF⟩ := h.fm
  refine ⟨b', d', ⟨h.below.trans ⟨h2.os, h2.tape, h2.output, h2.size, fun k hk => ?_⟩, ⟨a, c, ?_⟩, h1⟩, Fr.of_keeps h.rf h2⟩
  · have := h.rf.notq (k := k) (.inl hk)
    exact h2.block k (Nat.lt_of_lt_of_le hk h.below.size) this.1 this.2
  · refine hF.turn h2.size (fun k hk hz hb => h2.block k hk ?_ fun ad e e2 => hz ⟨ad, e, e2.symm⟩) ?_ h1.zlt
    · rintro rfl
      obtain ⟨cur, e, m, hc, ht⟩ := hb
      rw [h.rf.blk] at hc
      cases hc
      rcases ht with ht | ht | ht <;> exact absurd ht (by decide)
    · rintro k ⟨ad, e, rfl⟩
      rcases h3 ad e with ⟨ad0, e0, e1⟩ | h4
      · exact .inl ⟨ad0, e0, e1⟩
      · exact .inr h4
theorem PS.stay {w W W2 : World} {p q V V' : Nat} {cs cs' : List (List Int)} {b : Option Addr} {d : Nat} (h : PS w W p q V cs V' cs' b d) (hb : Below W.heap.size W W2) : PS w W2 p q V cs V' cs' b d := by
  obtain ⟨a, c, hF⟩ := h.fm
  exact ⟨below_next h.below hb, ⟨a, c, hF.below hb⟩, h.rf.below hb⟩
set_option maxHeartbeats 1000000 in
theorem one_bad (p vars : Nat) (b : Option Addr) (d : Nat) (zs : List Int) (v : Value) (w : World) (h0 : w.cell? ⟨p, 0, none⟩ = some (.int .i64 vars)) (hv : vars ≤ 20000) (hz : Ints w b zs)
    (hown : M.own vars zs = false) (hg : w.cell? ⟨9, 0, none⟩ = some v) :
    Calls Tryd.prog 15 #[.pointer (some ⟨p, 0, none⟩), .slice b zs.length d] w fun e w' => e = .returned v ∧ Below w.heap.size w w' := by
  have hhas := has_any p vars b d zs w h0 hv hz
  rw [hown] at hhas
  have HH := Lib.hid hhas
  clear hhas hown
  go_enter Tryd.func15, Tryd.ntmps15
  go_wp2_with (go_at_call 40; refine HH.out.mono ?_; rintro e w' ⟨rfl, rfl⟩)
  go_ret
  exact ⟨rfl, Below.refl _ _⟩
set_option maxHeartbeats 1000000 in
theorem add_bad (p vars : Nat) (b : Option Addr) (d : Nat) (zs : List Int) (v : Value) (w : World) (h0 : w.cell? ⟨p, 0, none⟩ = some (.int .i64 vars)) (hv : vars ≤ 20000) (hz : Ints w b zs)
    (hown : M.own vars zs = false) (hg : w.cell? ⟨9, 0, none⟩ = some v) :
    Calls Tryd.prog 13 #[.pointer (some ⟨p, 0, none⟩), .slice b zs.length d] w fun e w' => e = .returned v ∧ Below w.heap.size w w' := by
  have hhas := has_any p vars b d zs w h0 hv hz
  rw [hown] at hhas
  have HH := Lib.hid hhas
  clear hhas hown
  go_enter Tryd.func13, Tryd.ntmps13
  go_wp2_with (go_at_call 40; refine HH.out.mono ?_; rintro e w' ⟨rfl, rfl⟩)
  go_ret
  exact ⟨rfl, Below.refl _ _⟩
/-- a copy, apart from what is in Y -/
theorem cloneY_any {Y : Nat → Prop} (base p V : Nat) (cs : List (List Int)) (a : Option Addr) (c : Nat) (w : World) (hF : Fm X w base p V cs a c) (hY : XLt Y w) :
    Calls Tryd.prog 20 #[.pointer (some ⟨p, 0, none⟩)] w fun e w' => ∃ q a' c', e = .returned (.pointer (some ⟨q, 0, none⟩)) ∧ Fm Y w' w.heap.size q V cs a' c' ∧ Below w.heap.size w w' := by
  have h0 := hF.cell0
  have hps := hF.lt
  have hv := hF.vars
  have hlen := hF.len
  have hc := fun wx (hb : Below w.heap.size w wx) => clauses_any (Y := Y) base p V cs a c wx (hF.below hb) (hY.mono hb.size)
  have HC := Lib.hid hc
  have HY := Lib.hid hY
  clear hc hF hY
  go_enter Tryd.func20, Tryd.ntmps20
  go_wp2
  go_region_held3 (fun w' => w'.cell? ⟨p, 0, none⟩ = some (.int .i64 V))
    (first | (exact h0) | go_keep)
    (first
    | (go_at_call 24; refine (HC.out _ ((Below.refl _ _).drew)).mono ?_; rintro e w2 ⟨rfl, hO2, hb2⟩; have hb3 : Below w.heap.size w w2 := ((Below.refl w.heap.size w).drew).trans (hb2.mono (Nat.le_refl _)); have h0 := (hb3.cell (p := ⟨p, 0, none⟩) hps).trans h0; have HO := Lib.hid hO2; have HB := Lib.hid hb3; clear hO2 hb2 hb3))
  all_goals
    go_wp2
    go_ret
    refine ⟨_, some ⟨w.heap.size, 0, none⟩, cs.length, rfl, ?_, HB.out.alloc HB.out.size _⟩
    have hal : Below w2.heap.size w2 (w2.alloc (.cells #[.int .i64 V, .slice (some ⟨w.heap.size, 0, none⟩) cs.length cs.length] 75)) := (Below.refl _ _).alloc (Nat.le_refl _) _
    exact ⟨HB.out.size, by show (w2.heap.push _)[w2.heap.size]? = _; simp, HO.out.below hal, hv, hlen, (HY.out.mono HB.out.size).mono (by simp), fun h => by have := HY.out _ h; have := HB.out.size; omega⟩
set_option maxHeartbeats 1000000 in
set_option maxRecDepth 100000 in
/-- one variable more, or none -/
theorem varY_any (base p V : Nat) (cs : List (List Int)) (a : Option Addr) (c : Nat) (v : Value) (w : World) (hF : Fm X w base p V cs a c) (hg : w.cell? ⟨11, 0, none⟩ = some v) :
    Calls Tryd.prog 21 #[.pointer (some ⟨p, 0, none⟩)] w fun e w' => ∃ u V', e = .returned u ∧ 1 ≤ V' ∧ Fm X w' base p V' cs a c ∧ Kp X base w w' := by
  have h0 := hF.cell0
  have hf := hF.frozen 0
  have hvv := hF.vars
  by_cases hV : V < 20000
  · have hi := hF.inc hV
    have HI := Lib.hid (show _ ∧ _ from ⟨hi.1, hi.2.kp hF⟩)
    clear hi hF
    go_enter Tryd.func21, Tryd.ntmps21
    go_wp2
    go_ret2
    exact ⟨_, V + 1, rfl, by omega, HI.out⟩
  · have HF := Lib.hid hF
    clear hF
    go_enter Tryd.func21, Tryd.ntmps21
    go_wp2
    go_quiet (fail)
    go_wp2
    go_ret2
    exact ⟨_, V, rfl, by omega, HF.out.below (bDrewN _ _ _), Kp.of_below (bDrewN _ _ _)⟩
end Go.Proofs.YtgpifbhfnbkgoaaDoor
namespace Go.Proofs.YtgpifbhfnbkgoaaDoor
open Go.RowKit Go.Shelf
variable {X : Nat → Prop}

/-- an error and its number -/
def ErrNo (A : Nat → Addr) (v : Value) (r : Int) : Prop := ∀ W, Errs W A → Calls Tryd.prog 12 #[v] W fun e W' => e = .returned (.int .i64 r) ∧ Below W.heap.size W W'
theorem errNo_nil (A : Nat → Addr) : ErrNo A .nilIface 0 := fun W _ => (num_nil W).mono fun _ _ ⟨h1, h2⟩ => ⟨h1, h2 ▸ Below.refl _ _⟩
theorem errNo_at (A : Nat → Addr) (n : Nat) (hn : n < 13) : ErrNo A (errAt (A n)) ((n : Int) + 1) := fun W h => num_err A n W hn h
set_option maxRecDepth 100000 in
theorem rgate_bad (q vars : Nat) (k : Int) (b : Option Addr) (d : Nat) (zs : List Int) (w : World) (h0 : w.cell? ⟨q, 0, none⟩ = some (.int .i64 vars)) (hv : vars ≤ 20000) (hz : Ints w b zs) (hown : M.own vars zs = false) :
    Calls Tryd.prog 11 #[.pointer (some ⟨q, 0, none⟩), .int .i64 k, .slice b zs.length d] w fun e w' => e = .returned (.tuple #[.int .i64 0, .int .i64 10]) ∧ w = w' := by
  have ho := rown_any q vars b d zs w h0 hv hz
  rw [hown] at ho
  have HO := Lib.hid ho
  clear ho hown
  go_enter Tryd.func11, Tryd.ntmps11
  go_wp2_with (go_at_call 37; refine HO.out.mono ?_; rintro e w' ⟨rfl, rfl⟩)
  go_ret2
  exact ⟨rfl, rfl⟩
theorem rgate_ok (base q vars : Nat) (cs : List (List Int)) (a : Option Addr) (c : Nat) (b : Option Addr) (d : Nat) (k : Int) (zs : List Int) (w : World) (hF : Rf w base q vars cs a c) (hb : base ≤ w.heap.size) (hz : Ints w b zs) (hk : 1 ≤ k ∧ k ≤ 4) (hfit : M.Fits (k, zs)) (hown : M.own vars zs = true) (hs : zs.length ≤ 1000) (hsm : cs.length + 1001 ≤ 200000) :
    Calls Tryd.prog 11 #[.pointer (some ⟨q, 0, none⟩), .int .i64 k, .slice b zs.length d] w (RGateRes w base q vars cs a (M.gateC k ((vars : Int) + 1) zs)) := by
  rcases (show k = 1 ∨ k = 2 ∨ k = 3 ∨ k = 4 by omega) with rfl | rfl | rfl | rfl
  · exact rgateand_any base q vars cs a c b d zs w hF hb hz hown hs hsm
  · exact rgateor_any base q vars cs a c b d zs w hF hb hz hown hs hsm
  · match zs, hfit.1 rfl, hz, hown with
    | [x, y], _, hz, hown => exact rgatexor_any base q vars cs a c b d x y w hF hb hz hown hsm
  · match zs, hfit.2 (show (4 : Int) ≠ 1 by omega) (show (4 : Int) ≠ 2 by omega) (show (4 : Int) ≠ 3 by omega), hz, hown with
    | [x, y, z], _, hz, hown => exact rgatemost_any base q vars cs a c b d x y z w hF hb hz hown hsm
/-- a list at hand, that stays while formulas turn -/
structure LH (base : Nat) (W : World) (a : Option Addr) (c : Nat) (ys : List Int) : Prop where
  ints : Ints W a ys
  kept : KeptI W base (eff a ys)
  cap : ys.length ≤ c
  non : a = none → c = 0
theorem LH.fr {base c : Nat} {W W2 : World} {a : Option Addr} {ys : List Int} (h : LH base W a c ys) (hf : Fr base W W2) (hb : base ≤ W.heap.size) : LH base W2 a c ys :=
  ⟨(hf.ints h.ints h.kept hb).1, (hf.ints h.ints h.kept hb).2, h.cap, h.non⟩
/-- a call answered u on the one side -/
def CodeBoth (w : World) (p q V : Nat) (cs : List (List Int)) (V2 : Nat) (cs2 : List (List Int)) (b : Option Addr) (d : Nat) (u : Value) (W : World) (e : Ending) (W' : World) : Prop :=
  e = .returned u ∧ PS w W' p q V2 cs2 V cs b d ∧ Fr w.heap.size W W'
/-- .. and u on the document's -/
def RefBoth (w : World) (p q V2 : Nat) (cs2 : List (List Int)) (u : Value) (W : World) (e : Ending) (W' : World) : Prop :=
  e = .returned u ∧ ∃ b' d', PS w W' p q V2 cs2 V2 cs2 b' d' ∧ Fr w.heap.size W W'
theorem PS.noCode {w W W2 : World} {p q V V' : Nat} {cs cs' : List (List Int)} {b : Option Addr} {d : Nat} (h : PS w W p q V cs V' cs' b d) (hb : Below W.heap.size W W2) : PS w W2 p q V cs V' cs' b d ∧ Fr w.heap.size W W2 := ⟨h.stay hb, Fr.of_below hb⟩
theorem gate_both (w : World) (A : Nat → Addr) (hE : Errs w A) (p q V : Nat) (cs : List (List Int)) (b : Option Addr) (d : Nat) (k : Int) (ys : List Int) (hV : V ≤ 20000) (hk : 1 ≤ k ∧ k ≤ 4) (hfit : M.Fits (k, ys)) (hs : ys.length ≤ 20) (hcs : cs.length ≤ 190000) :
    ∃ (g r : Int) (v : Value) (V2 : Nat) (cs2 : List (List Int)), cs2.length ≤ cs.length + 500 ∧ ErrNo A v r ∧
      (∀ W a c, PS w W p q V cs V cs b d → LH w.heap.size W a c ys → Calls Tryd.prog 10 #[.pointer (some ⟨p, 0, none⟩), .int .i64 k, .slice a ys.length c] W (CodeBoth w p q V cs V2 cs2 b d (.tuple #[.int .i64 g, v]) W)) ∧
      (∀ W a c, PS w W p q V2 cs2 V cs b d → LH w.heap.size W a c ys → Calls Tryd.prog 11 #[.pointer (some ⟨q, 0, none⟩), .int .i64 k, .slice a ys.length c] W (RefBoth w p q V2 cs2 (.tuple #[.int .i64 g, .int .i64 r]) W)) := by
  cases hown : M.own V ys
  · refine ⟨0, 10, errAt (A 9), V, cs, by omega, errNo_at A 9 (by omega), fun W a c hP hL => ?_, fun W a c hP hL => ?_⟩
    · obtain ⟨fa, fc, hF⟩ := hP.fm
      exact (gateL_bad w.heap.size p V cs fa fc a c k ys (errAt (A 9)) W hF hL.ints hk hfit hown ((hE.below hP.below).at' 9 _ rfl).cell).mono fun e W' ⟨h1, h2⟩ => ⟨h1, hP.noCode h2⟩
    · refine (rgate_bad q V k a c ys W hP.rf.cell0 hV hL.ints hown).mono fun e W' ⟨h1, h2⟩ => ⟨h1, b, d, ?_, ?_⟩
      · rw [← h2]; exact hP
      · rw [← h2]; exact Fr.refl _ _
  · by_cases hv : V < 20000
    · have hlen1 := M.addCs_length cs (M.gateC k ((V + 1 : Nat) : Int) ys)
      have hlen2 := M.gateC_length k ((V + 1 : Nat) : Int) ys
      have e1 : ((V + 1 : Nat) : Int) = (V : Int) + 1 := by omega
      refine ⟨(V : Int) + 1, 0, .nilIface, V + 1, (M.gateC k ((V + 1 : Nat) : Int) ys).foldl M.addC cs, by omega, errNo_nil A, fun W a c hP hL => ?_, fun W a c hP hL => ?_⟩
      · obtain ⟨fa, fc, hF⟩ := hP.fm
        exact (gateL_ok w.heap.size p V cs fa fc a c k ys W hF hP.below.size hL.ints hL.non hL.kept hk hfit hown hv (by omega)).mono fun e W' ⟨h1, h2⟩ => ⟨h1, hP.code h2⟩
      · refine (rgate_ok w.heap.size q V cs b d a c k ys W hP.rf hP.below.size hL.ints hk hfit hown (by omega) (by omega)).mono fun e W' h => ?_
        rcases h with ⟨_, h1, h2⟩ | ⟨h0, _⟩
        · rw [← e1] at h2; exact ⟨h1, hP.ref h2⟩
        · exact absurd hv h0
    · refine ⟨0, 12, errAt (A 11), V, cs, by omega, errNo_at A 11 (by omega), fun W a c hP hL => ?_, fun W a c hP hL => ?_⟩
      · obtain ⟨fa, fc, hF⟩ := hP.fm
        exact (gateL_lim w.heap.size p V cs fa fc a c k ys (errAt (A 11)) W hF hL.ints hk hfit hown (by omega) ((hE.below hP.below).at' 11 _ rfl).cell).mono fun e W' ⟨h1, h2⟩ => ⟨h1, hP.noCode h2⟩
      · refine (rgate_ok w.heap.size q V cs b d a c k ys W hP.rf hP.below.size hL.ints hk hfit hown (by omega) (by omega)).mono fun e W' h => ?_
        rcases h with ⟨h0, _⟩ | ⟨_, h1, h2⟩
        · exact absurd h0 hv
        · exact ⟨h1, b, d, hP.noCode h2⟩
theorem add_both (w : World) (A : Nat → Addr) (hE : Errs w A) (p q V : Nat) (cs : List (List Int)) (b : Option Addr) (d : Nat) (ys : List Int) (hV : V ≤ 20000) (hs : ys.length ≤ 20) (hcs : cs.length ≤ 190000) :
    ∃ (r : Int) (v : Value) (V2 : Nat) (cs2 : List (List Int)), cs2.length ≤ cs.length + 500 ∧ ErrNo A v r ∧
      (∀ W a c, PS w W p q V cs V cs b d → LH w.heap.size W a c ys → Calls Tryd.prog 13 #[.pointer (some ⟨p, 0, none⟩), .slice a ys.length c] W (CodeBoth w p q V cs V2 cs2 b d v W)) ∧
      (∀ W a c, PS w W p q V2 cs2 V cs b d → LH w.heap.size W a c ys → Calls Tryd.prog 14 #[.pointer (some ⟨q, 0, none⟩), .slice a ys.length c] W (RefBoth w p q V2 cs2 (.int .i64 r) W)) := by
  cases hown : M.own V ys
  · refine ⟨10, errAt (A 9), V, cs, by omega, errNo_at A 9 (by omega), fun W a c hP hL => ?_, fun W a c hP hL => ?_⟩
    · obtain ⟨fa, fc, hF⟩ := hP.fm
      exact (add_bad p V a c ys (errAt (A 9)) W hF.cell0 hV hL.ints hown ((hE.below hP.below).at' 9 _ rfl).cell).mono fun e W' ⟨h1, h2⟩ => ⟨h1, hP.noCode h2⟩
    · refine (radd_bad w.heap.size q V cs b d a c ys W hP.rf hL.ints hown).mono fun e W' ⟨h1, h2⟩ => ⟨h1, b, d, ?_, ?_⟩
      · rw [← h2]; exact hP
      · rw [← h2]; exact Fr.refl _ _
  · have hlen1 := M.addC_length cs ys
    refine ⟨0, .nilIface, V, M.addC cs ys, by omega, errNo_nil A, fun W a c hP hL => ?_, fun W a c hP hL => ?_⟩
    · obtain ⟨fa, fc, hF⟩ := hP.fm
      exact (add_ok w.heap.size p V cs fa fc a c ys W hF hL.ints hown (by omega)).mono fun e W' ⟨h1, h2⟩ => ⟨h1, hP.code h2⟩
    · exact (radd_ok w.heap.size q V cs b d a c ys W hP.rf hP.below.size hL.ints hL.kept hown (by omega) (by omega)).mono fun e W' ⟨h1, h2⟩ => ⟨h1, hP.ref h2⟩
theorem one_both (w : World) (A : Nat → Addr) (hE : Errs w A) (p q V : Nat) (cs : List (List Int)) (b : Option Addr) (d : Nat) (ys : List Int) (hV : V ≤ 20000) (hs : ys.length ≤ 20) (hcs : cs.length ≤ 190000) :
    ∃ (r : Int) (v : Value) (V2 : Nat) (cs2 : List (List Int)), cs2.length ≤ cs.length + 500 ∧ ErrNo A v r ∧
      (∀ W a c, PS w W p q V cs V cs b d → LH w.heap.size W a c ys → Calls Tryd.prog 15 #[.pointer (some ⟨p, 0, none⟩), .slice a ys.length c] W (CodeBoth w p q V cs V2 cs2 b d v W)) ∧
      (∀ W a c, PS w W p q V2 cs2 V cs b d → LH w.heap.size W a c ys → Calls Tryd.prog 16 #[.pointer (some ⟨q, 0, none⟩), .slice a ys.length c] W (RefBoth w p q V2 cs2 (.int .i64 r) W)) := by
  have hsq : ys.length * ys.length ≤ 20 * 20 := Nat.mul_le_mul hs hs
  cases hown : M.own V ys
  · refine ⟨10, errAt (A 9), V, cs, by omega, errNo_at A 9 (by omega), fun W a c hP hL => ?_, fun W a c hP hL => ?_⟩
    · obtain ⟨fa, fc, hF⟩ := hP.fm
      exact (one_bad p V a c ys (errAt (A 9)) W hF.cell0 hV hL.ints hown ((hE.below hP.below).at' 9 _ rfl).cell).mono fun e W' ⟨h1, h2⟩ => ⟨h1, hP.noCode h2⟩
    · refine (rone_bad w.heap.size q V cs b d a c ys W hP.rf hL.ints hown).mono fun e W' ⟨h1, h2⟩ => ⟨h1, b, d, ?_, ?_⟩
      · rw [← h2]; exact hP
      · rw [← h2]; exact Fr.refl _ _
  · have hlen1 : (M.oneC ys).length ≤ 400 := by
      have := M.oneTo_length ys ys.length (Nat.le_refl _)
      rw [M.oneTo_all] at this; omega
    refine ⟨0, .nilIface, V, cs ++ M.oneC ys, by simp; omega, errNo_nil A, fun W a c hP hL => ?_, fun W a c hP hL => ?_⟩
    · obtain ⟨fa, fc, hF⟩ := hP.fm
      exact (one_ok w.heap.size p V cs fa fc a c ys W hF hL.ints hL.cap hL.non hown (by omega) (by omega)).mono fun e W' ⟨h1, h2⟩ => ⟨h1, hP.code h2⟩
    · exact (rone_ok w.heap.size q V cs b d a c ys W hP.rf hP.below.size hL.ints hown (by omega) (by omega)).mono fun e W' ⟨h1, h2⟩ => ⟨h1, hP.ref h2⟩
theorem many_both (w : World) (A : Nat → Addr) (hE : Errs w A) (p q V : Nat) (cs : List (List Int)) (b : Option Addr) (d : Nat) (n : Int) (hV : V ≤ 20000) (hn : I64 n) :
    ∃ (r : Int) (v : Value) (V2 : Nat) (ys : List Int), ErrNo A v r ∧
      (∀ W, PS w W p q V cs V cs b d → Calls Tryd.prog 17 #[.pointer (some ⟨p, 0, none⟩), .int .i64 n] W fun e W' => ∃ a c, LH w.heap.size W' a c ys ∧ CodeBoth w p q V cs V2 cs b d (.tuple #[.slice a ys.length c, v]) W e W') ∧
      (∀ W, PS w W p q V2 cs V cs b d → Calls Tryd.prog 18 #[.pointer (some ⟨q, 0, none⟩), .int .i64 n] W fun e W' => ∃ a c, Ints W' a ys ∧ RefBoth w p q V2 cs (.tuple #[.slice a ys.length c, .int .i64 r]) W e W') := by
  have hn1 := hn.lo
  by_cases hlim : 20000 - (V : Int) < n
  · refine ⟨12, errAt (A 11), V, [], errNo_at A 11 (by omega), fun W hP => ?_, fun W hP => ?_⟩
    · obtain ⟨fa, fc, hF⟩ := hP.fm
      refine (many_limit p V n (errAt (A 11)) W hF.cell0 hV (by omega) hlim ((hE.below hP.below).at' 11 _ rfl).cell).mono fun e W' ⟨h1, k, h2⟩ => ⟨none, 0, ⟨Ints.nil _ _, (fun ad e => by cases e), Nat.le_refl _, fun _ => rfl⟩, h1, ?_⟩
      rw [h2]; exact hP.noCode (bDrewN _ _ _)
    · refine (rmany_lim q V n W hP.rf.cell0 hV hlim).mono fun e W' ⟨h1, h2⟩ => ⟨none, 0, Ints.nil _ _, h1, b, d, ?_, ?_⟩
      · rw [← h2]; exact hP
      · rw [← h2]; exact Fr.refl _ _
  · refine ⟨0, .nilIface, V + n.toNat, M.iota V n.toNat, errNo_nil A, fun W hP => ?_, fun W hP => ?_⟩
    · obtain ⟨fa, fc, hF⟩ := hP.fm
      by_cases h1 : n < 1
      · have e0 : n.toNat = 0 := by omega
        rw [e0]
        refine (many_zero p n W h1).mono fun e W' ⟨h2, h3⟩ => ⟨none, 0, ⟨Ints.nil _ _, (fun ad e => by cases e), Nat.le_refl _, fun _ => rfl⟩, h2, ?_, ?_⟩
        · rw [← h3]; exact hP
        · rw [← h3]; exact Fr.refl _ _
      · obtain ⟨m, rfl⟩ : ∃ m : Nat, n = (m : Int) := ⟨n.toNat, by omega⟩
        have em : ((m : Int)).toNat = m := by omega
        rw [em]
        refine (many_ok w.heap.size p V m cs fa fc W hF (by omega) (by omega) hP.below.size).mono fun e W' h => ?_
        obtain ⟨h2, h3, h4, h5⟩ := h
        have hI := h4.ints (M.iota_i64 (by omega)) (by rw [M.iota_length]; omega)
        refine ⟨_, m, ⟨hI, ?_, by rw [M.iota_length]; exact Nat.le_refl _, (fun e => by cases e)⟩, by rw [M.iota_length]; exact h2, hP.code ⟨fa, fc, h3, ?_⟩⟩
        · intro ad e
          obtain ⟨cur, mm, hc⟩ := h4.tag ad (eff_some e)
          exact .inr ⟨cur, mm, hc⟩
        · have hK : KeepsF p fa W W' := ⟨h5.os, h5.tape, h5.output, h5.size, fun k hlt hkp _ => h5.block k hlt hkp⟩
          exact hK.kp hF
    · refine (rmany_ok w.heap.size q V n cs b d W hP.rf (by omega) hn1).mono fun e W' h => ?_
      obtain ⟨a, c, h1, h2, h3⟩ := h
      exact ⟨a, c, h2, by rw [M.iota_length]; exact h1, hP.ref h3⟩
end Go.Proofs.YtgpifbhfnbkgoaaDoor
namespace Go.Proofs.YtgpifbhfnbkgoaaDoor
open Go.RowKit Go.Shelf
variable {X Y : Nat → Prop}

theorem Fm.lower {w : World} {base base' p V : Nat} {cs : List (List Int)} {a : Option Addr} {c : Nat} (h : Fm X w base p V cs a c) (hb : base' ≤ base) : Fm X w base' p V cs a c := by
  refine ⟨Nat.le_trans hb h.le, h.blk, ?_, h.vars, h.len, h.xlt, h.xp⟩
  obtain ⟨hoff, vals, hr, hv⟩ := h.own
  refine ⟨hoff, vals, ⟨hr.1, ?_⟩, hv⟩
  rcases hr.2 with h0 | ⟨g, cap, cur, e, hbg, r⟩
  · exact .inl h0
  · exact .inr ⟨g, cap, cur, e, Nat.le_trans hb hbg, r⟩
/-- a formula that lies in X stands while one turns that avoids X -/
theorem Fm.kpX {W W2 : World} {base n p V : Nat} {cs : List (List Int)} {a : Option Addr} {c : Nat} (h : Fm Y W n p V cs a c) (hk : Kp X base W W2) (hX : ∀ k, n ≤ k → k < W.heap.size → (k = p ∨ ∃ ad, a = some ad ∧ ad.block = k) → X k) : Fm Y W2 n p V cs a c := by
  refine ⟨h.le, (hk.block p h.lt (.inr (.inl (hX p h.le h.lt (.inl rfl))))).trans h.blk, ?_, h.vars, h.len, h.xlt.mono hk.size, h.xp⟩
  obtain ⟨hoff, vals, hr, hv⟩ := h.own
  refine ⟨hoff, vals, ⟨hr.1, ?_⟩, fun i y hy => ?_⟩
  · rcases hr.2 with h0 | ⟨g, cap, cur, e, hbg, hgg, r⟩
    · exact .inl h0
    · have hl := (Array.getElem?_eq_some_iff.1 hgg).1
      have e' := e
      injection e' with e1
      exact .inr ⟨g, cap, cur, e, hbg, (hk.block g hl (.inr (.inl (hX g hbg hl (.inr ⟨_, e1, rfl⟩))))).trans hgg, r⟩
  · obtain ⟨a1, c1, e1, e2, e3, e4, e5⟩ := hv i y hy
    have k1 : ∀ ad, a1 = some ad → W2.heap[ad.block]? = W.heap[ad.block]? := by
      intro ad e
      obtain ⟨cur, m, hc⟩ := e3.tag ad e
      exact hk.block _ (Array.getElem?_eq_some_iff.1 hc).1 (.inr (.inr ⟨cur, _, m, hc, by decide, by decide⟩))
    exact ⟨a1, c1, e1, e2.same hk.size k1, ⟨e3.off, e3.tag.same k1⟩, e4, e5⟩
/-- the clone, the old one, the document's -/
structure CS (w W : World) (p p' q V Vo : Nat) (cs cso : List (List Int)) (b : Option Addr) (d n m : Nat) : Prop where
  below : Below w.heap.size w W
  le : w.heap.size ≤ n ∧ n ≤ m ∧ m ≤ W.heap.size
  clone : ∃ a c, Fm (Zof b) W n p' V cs a c ∧ p' < m ∧ ∀ ad, a = some ad → ad.block < m
  old : ∃ a c, Fm (fun k => Zof b k ∨ (n ≤ k ∧ k < m)) W w.heap.size p Vo cso a c
  rf : Rf W w.heap.size q V cs b d
theorem Rf.kpX {W W2 : World} {base q V : Nat} {cs : List (List Int)} {b : Option Addr} {d : Nat} (h : Rf W base q V cs b d) (hX : ∀ k, Zof b k → X k) (hk : Kp X base W W2) : Rf W2 base q V cs b d :=
  h.kp ⟨hk.os, hk.tape, hk.output, hk.size, fun k hlt ho => hk.block k hlt (ho.imp id (Or.imp (hX k) id))⟩
theorem CS.turn {w W W2 : World} {p p' q V Vo Vo2 : Nat} {cs cso cso2 : List (List Int)} {b : Option Addr} {d n m : Nat} (h : CS w W p p' q V Vo cs cso b d n m) (hp : FmPost (fun k => Zof b k ∨ (n ≤ k ∧ k < m)) W w.heap.size p Vo2 cso2 W2) : CS w W2 p p' q V Vo2 cs cso2 b d n m ∧ Fr w.heap.size W W2 := by
  obtain ⟨a', c', h1, h2⟩ := hp
  obtain ⟨a, c, hC, hl, hr⟩ := h.clone
  refine ⟨⟨h.below.trans (h2.below h.below.size), ⟨h.le.1, h.le.2.1, Nat.le_trans h.le.2.2 h2.size⟩, ⟨a, c, hC.kpX h2 (fun k hk _ hk2 => .inr ⟨hk, ?_⟩), hl, hr⟩, ⟨a', c', h1⟩, h.rf.kpX (fun k hk => .inl hk) h2⟩, Fr.of_kp h2⟩
  rcases hk2 with rfl | ⟨ad, e, rfl⟩
  · exact hl
  · exact hr ad e
theorem CS.stay {w W W2 : World} {p p' q V Vo : Nat} {cs cso : List (List Int)} {b : Option Addr} {d n m : Nat} (h : CS w W p p' q V Vo cs cso b d n m) (hb : Below W.heap.size W W2) : CS w W2 p p' q V Vo cs cso b d n m := by
  obtain ⟨a, c, hC, hl, hr⟩ := h.clone
  obtain ⟨a2, c2, hO⟩ := h.old
  exact ⟨below_next h.below hb, ⟨h.le.1, h.le.2.1, Nat.le_trans h.le.2.2 hb.size⟩, ⟨a, c, hC.below hb, hl, hr⟩, ⟨a2, c2, hO.below hb⟩, h.rf.below hb⟩
theorem CS.ps {w W : World} {p p' q V Vo : Nat} {cs cso : List (List Int)} {b : Option Addr} {d n m : Nat} (h : CS w W p p' q V Vo cs cso b d n m) : PS w W p' q V cs V cs b d := by
  obtain ⟨a, c, hC, _⟩ := h.clone
  exact ⟨h.below, ⟨a, c, hC.lower h.le.1⟩, h.rf⟩
theorem clone_both (w : World) (p q V : Nat) (cs : List (List Int)) (b : Option Addr) (d : Nat) (W : World) (hP : PS w W p q V cs V cs b d) :
    Calls Tryd.prog 20 #[.pointer (some ⟨p, 0, none⟩)] W fun e W' => ∃ p' m, e = .returned (.pointer (some ⟨p', 0, none⟩)) ∧ CS w W' p p' q V V cs cs b d W.heap.size m ∧ Fr w.heap.size W W' := by
  obtain ⟨fa, fc, hF⟩ := hP.fm
  refine (cloneY_any w.heap.size p V cs fa fc W hF hP.rf.zlt).mono fun e W' h => ?_
  obtain ⟨p', a', c', h1, h2, h3⟩ := h
  refine ⟨p', W'.heap.size, h1, ⟨below_next hP.below h3, ⟨hP.below.size, h3.size, Nat.le_refl _⟩, ⟨a', c', h2, h2.lt, fun ad e => ?_⟩, ⟨fa, fc, ?_⟩, hP.rf.below h3⟩, Fr.of_below h3⟩
  · obtain ⟨_, cur, hc⟩ := h2.own.row ad e
    exact (Array.getElem?_eq_some_iff.1 hc).1
  · refine hF.turn h3.size (fun k hk _ _ => h3.block k hk) (fun k hk => hk.imp id And.left) ?_
    rintro k (hk | ⟨_, hk⟩)
    · exact Nat.lt_of_lt_of_le (hP.rf.zlt k hk) h3.size
    · exact hk
theorem cvar_both (w : World) (A : Nat → Addr) (hE : Errs w A) (p p' q V Vo : Nat) (cs cso : List (List Int)) (b : Option Addr) (d n m : Nat) (W : World) (h : CS w W p p' q V Vo cs cso b d n m) :
    Calls Tryd.prog 21 #[.pointer (some ⟨p, 0, none⟩)] W fun e W' => ∃ u Vo2, e = .returned u ∧ 1 ≤ Vo2 ∧ CS w W' p p' q V Vo2 cs cso b d n m ∧ Fr w.heap.size W W' := by
  obtain ⟨a, c, hO⟩ := h.old
  refine (varY_any w.heap.size p Vo cso a c (errAt (A 11)) W hO ((hE.below h.below).at' 11 _ rfl).cell).mono fun e W' h2 => ?_
  obtain ⟨u, Vo2, h3, h4, h5, h6⟩ := h2
  exact ⟨u, Vo2, h3, h4, h.turn ⟨a, c, h5, h6⟩⟩
theorem cadd_both (w : World) (p p' q V Vo : Nat) (cs cso : List (List Int)) (b : Option Addr) (d n m : Nat) (W : World) (h : CS w W p p' q V Vo cs cso b d n m) (hv : 1 ≤ Vo) (hcs : cso.length ≤ 190000) :
    Calls Tryd.prog 13 #[.pointer (some ⟨p, 0, none⟩), .slice (some ⟨W.heap.size, 0, none⟩) 1 1] (W.alloc (.cells #[.int .i64 1] 3)) fun e W' => e = .returned .nilIface ∧ ∃ cso2, CS w W' p p' q V Vo cs cso2 b d n m ∧ Fr w.heap.size W W' := by
  have hb := below_alloc (Below.refl W.heap.size W) (.cells #[.int .i64 1] 3)
  have h1 := h.stay hb
  obtain ⟨a, c, hO⟩ := h1.old
  have hown : M.own Vo [1] = true := by rw [M.own_iff]; intro x hx; simp at hx; subst hx; omega
  refine (add_ok w.heap.size p Vo cso a c (some ⟨W.heap.size, 0, none⟩) 1 [1] _ hO (Ints.one W 1 (by constructor <;> omega) _) hown (by omega)).mono fun e W' h2 => ?_
  have h3 := h1.turn h2.2
  exact ⟨h2.1, _, h3.1, (Fr.of_below hb).trans h3.2⟩
end Go.Proofs.YtgpifbhfnbkgoaaDoor
namespace Go.Proofs.YtgpifbhfnbkgoaaDoor
open Go.RowKit Go.Shelf

theorem few_lh (w : World) (kd n : Int) (la : Option Addr) (lc : Nat) (zs : List Int) (hI : Ints w la zs) (hadr : ∀ ad, eff la zs = some ad → ad.block < w.heap.size) (hc : zs.length ≤ lc) (hn : la = none → lc = 0) (hl : zs.length ≤ 20) :
    ∀ W, Below w.heap.size w W → Calls Tryd.prog 9 #[.agg #[.int .i64 kd, .int .i64 n, .slice la zs.length lc]] W fun e W' => ∃ af cf, e = .returned (.slice af (M.few kd zs).length cf) ∧ LH w.heap.size W' af cf (M.few kd zs) ∧ Below W.heap.size W W' := by
  intro W hW
  refine (few_any kd n la lc zs W (hI.below hW) hc hn (by omega)).mono fun e W' h => ?_
  obtain ⟨af, cf, h1, h2, h3, h4, h5, h6⟩ := h
  refine ⟨af, cf, h1, ⟨h2, ?_, h3, h4⟩, h5⟩
  rcases h6 with ⟨rfl, h7⟩ | h7
  · rw [h7]; exact fun ad e => .inl (hadr ad e)
  · exact fun ad e => .inr (h7.tag ad (eff_some e))
theorem few_len20 (kd : Int) (zs : List Int) (h : zs.length ≤ 20) : (M.few kd zs).length ≤ 20 := by
  unfold M.few
  split
  · rw [M.taken_length]; omega
  · split
    · rw [M.taken_length]; omega
    · exact h
theorem few_same {kd : Int} (zs : List Int) (h3 : kd ≠ 3) (h4 : kd ≠ 4) : M.few kd zs = zs := by unfold M.few; rw [if_neg h3, if_neg h4]
theorem few_i64 (kd : Int) (zs : List Int) (h : ∀ z ∈ zs, I64 z) : ∀ z ∈ M.few kd zs, I64 z := by
  have ht : ∀ n, ∀ z ∈ M.taken zs n, I64 z := by
    intro n z hz
    have := List.mem_of_mem_take hz
    rcases List.mem_append.1 this with h1 | h1
    · exact h z h1
    · rw [List.mem_replicate] at h1; rw [h1.2]; constructor <;> omega
  unfold M.few
  split
  · exact ht _
  · split
    · exact ht _
    · exact h
theorem own_lh {W : World} {base base' g c : Nat} {ys : List Int} (h : OwnI W base' (some ⟨g, 0, none⟩) c (ys ++ M.marks)) (hw : ∀ z ∈ ys, I64 z) (hl : ys.length ≤ 20) : LH base W (some ⟨g, 0, none⟩) c ys := by
  refine ⟨h.front hw (by omega), fun ad e => .inr (h.tag ad (eff_some e)), ?_, fun e => by cases e⟩
  have := h.cap.1
  rw [List.length_append] at this; omega
theorem below_drew {w W : World} (h : Below w.heap.size w W) : Below w.heap.size w W.drew := h.drew
set_option maxHeartbeats 32000000 in
set_option maxRecDepth 100000 in
theorem playsLaw (a : Option Addr) (c : Nat) (os : List (Int × Int × List Int)) (A : Nat → Addr) (w : World) (hz : Ops w a os) (h64 : ∀ o ∈ os, I64 o.2.1) (hE : Errs w A) :
    Calls Tryd.prog 3 #[.slice a os.length c] w fun e w' => e = .returned (.bool true) ∧ Below w.heap.size w w' := by
  have hlen := hz.len
  have HZ := Lib.hid hz
  have HE := Lib.hid hE
  have H64 := Lib.hid h64
  clear hz hE h64
  go_enter Tryd.func3, Tryd.ntmps3
  go_wp2_with fail
  refine (alive15 w).mono ?_
  rintro e W0 ⟨rfl, hb0⟩
  have HB0 := Lib.hid hb0
  clear hb0
  by_cases hl40 : os.length ≤ 40
  · go_wp2_with fail
    refine (new_any _).mono ?_
    rintro e W1 ⟨rfl, hW1⟩
    have hF1 : Fm NoX W1 w.heap.size W0.heap.size 0 [] none 0 := by rw [← hW1]; exact Fm.new W0 _ HB0.out.size (NoX.lt _)
    have hb1 : Below w.heap.size w W1 := by rw [← hW1]; exact below_alloc HB0.out _
    have hR2 := Rf.new W1 w.heap.size hb1.size
    have hPS : PS w (W1.alloc (.cells #[.int .i64 0, .slice none 0 0] 29)) W0.heap.size W1.heap.size 0 [] 0 [] none 0 := ⟨below_alloc hb1 _, ⟨none, 0, (hF1.below (below_alloc (Below.refl _ _) _)).turn (Nat.le_refl _) (fun _ _ _ _ => rfl) (fun k ⟨_, e, _⟩ => by cases e) hR2.zlt⟩, hR2⟩
    have HPS := Lib.hid hPS
    clear hF1 hb1 hR2 hPS hW1
    go_wp2
    go_loopw [3, 28] (fun f i wr => ∃ (k p V : Nat) (cs : List (List Int)) (b : Option Addr) (d : Nat), k ≤ os.length ∧ i = .int .i64 k ∧ f = .pointer (some ⟨p, 0, none⟩) ∧ PS w wr p W1.heap.size V cs V cs b d ∧ cs.length ≤ 500 * k) (fun _ i _ => os.length - (intOf i).toNat)
    case atStart => exact ⟨0, _, 0, [], none, 0, Nat.zero_le _, rfl, rfl, HPS.out, Nat.le_refl _⟩
    case round =>
      obtain ⟨k, p, V, cs, b, d, hk, rfl, rfl, hP, hcl⟩ := hrel
      have HP := Lib.hid hP
      have hVV := hP.rf.vars
      clear hP
      by_cases hlt : k < os.length
      · obtain ⟨bb, off, rfl, hbl, hcells⟩ := HZ.out.addr (by omega)
        obtain ⟨o, hok⟩ : ∃ o, os[k]? = some o := ⟨os[k], by simp [hlt]⟩
        obtain ⟨hc0, hc1, la, lc, hc2, hI, hcap, hnone, hadr⟩ := hcells k o hok
        have HW := Lib.hid HP.out.below
        have hn64 := H64.out o (List.mem_of_getElem? hok)
        have t0 := (HW.out.cell (p := ⟨bb, off + k * 3, none⟩) hbl).trans hc0
        have t1 := (HW.out.cell (p := ⟨bb, off + k * 3 + 1, none⟩) hbl).trans hc1
        have t2 := (HW.out.cell (p := ⟨bb, off + k * 3 + 2, none⟩) hbl).trans hc2
        clear hcells hok hc0 hc1 hc2
        obtain ⟨kd, n, zs⟩ := o
        simp only at t0 t1 t2 hI hcap hnone hadr hn64
        have hszr := HW.out.size
        by_cases hl20 : zs.length ≤ 20
        · have HFEW := Lib.hid (few_lh w kd n la lc zs hI hadr hcap hnone hl20)
          have HYL := Lib.hid (few_len20 kd zs hl20)
          have HYI := Lib.hid (few_i64 kd zs hI.wf)
          have HLA : Hid (∀ W, Below w.heap.size w W → LH w.heap.size W la lc zs) := Lib.hid fun W hW => ⟨hI.below hW, fun ad e => .inl (hadr ad e), hcap, hnone⟩
          have HN64 := Lib.hid hn64
          clear hI hcap hnone hadr hn64
          go_wp2_with fail
          have hb1 : Below wr.heap.size wr (wr.alloc (.cells #[.int .i64 kd, .int .i64 n, .slice la zs.length lc] 32)) := below_alloc (Below.refl _ _) _
          have hB0 : OBox (wr.alloc (.cells #[.int .i64 kd, .int .i64 n, .slice la zs.length lc] 32)) wr.heap.size kd n la zs.length lc := by show (wr.heap.push _)[wr.heap.size]? = _; simp
          have HB1 := Lib.hid hb1
          have HBX := Lib.hid hB0
          clear hb1 hB0 t0 t1 t2
          refine (HFEW.out _ (below_next HW.out HB1.out)).mono ?_
          rintro e w2 ⟨af, cf, rfl, hL2, hb2⟩
          have HB2 := Lib.hid (HB1.out.trans (hb2.mono HB1.out.size))
          have HBX2 := Lib.hid (HBX.out.fr (base := w.heap.size) (Fr.of_below hb2))
          have HL2 := Lib.hid hL2
          have k0 := HBX2.out.cells.1
          clear hL2 hb2
          generalize hys : M.few kd zs = ys at *
          have HYS := Lib.hid hys
          clear hys
          go_wp2_with fail
          have hyl2 : ys.length ≤ 20 := HYL.out
          refine (ints_any af cf ys w2 HL2.out.ints HL2.out.non (by omega)).mono ?_
          rintro e w3 ⟨g, cg, rfl, hO3, hb3⟩
          have HO3 := Lib.hid hO3
          have HB3 := Lib.hid (HB2.out.trans (hb3.mono HB2.out.size))
          have HBX3 := Lib.hid (HBX2.out.fr (base := w.heap.size) (Fr.of_below hb3))
          have HP3 := Lib.hid (HP.out.stay HB3.out)
          clear hO3 hb3 k0 HBX HBX2 HB1 HB2 HL2 HP HW
          have k0 := HBX3.out.cells.1
          have k1 := HBX3.out.cells.2.1
          have k2 := HBX3.out.cells.2.2
          go_upto_block 2 with (fail)
          go_cut [3, 7] (fun s3 s7 wx => ∃ (p2 V2 : Nat) (cs2 : List (List Int)) (b2 : Option Addr) (d2 : Nat), s3 = .pointer (some ⟨p2, 0, none⟩) ∧ s7 = .bool true ∧ PS w wx p2 W1.heap.size V2 cs2 V2 cs2 b2 d2 ∧ cs2.length ≤ cs.length + 500 ∧ Fr w.heap.size w3 wx)
          case first =>
            by_cases hkd : 1 ≤ kd ∧ kd ≤ 4
            · have hfit : M.Fits (kd, ys) := by rw [← HYS.out]; exact few_fits hkd zs
              obtain ⟨gv, rv, v, V2, cs2, hl2, hno, hcode, href⟩ := gate_both w A HE.out p W1.heap.size V cs b d kd ys hVV hkd hfit hyl2 (by omega)
              have HNO := Lib.hid hno
              have HCODE := Lib.hid hcode
              have HREF := Lib.hid href
              clear hno hcode href hfit
              rcases (show kd = 1 ∨ kd = 2 ∨ kd = 3 ∨ kd = 4 by omega) with rfl | rfl | rfl | rfl
              · clear hkd
                go_wp2_with fail
                refine (HCODE.out _ _ _ HP3.out (own_lh HO3.out HYI.out hyl2)).mono ?_
                rintro e w4 ⟨rfl, hP4, hfr4⟩
                have HP4 := Lib.hid hP4
                have HFR4 := Lib.hid hfr4
                have k0 := (HBX3.out.fr hfr4).cells.1
                have k1 := (HBX3.out.fr hfr4).cells.2.1
                have k2 := (HBX3.out.fr hfr4).cells.2.2
                clear hP4 hfr4
                go_wp2
                go_region_held3 (fun w' => w'.cell? ⟨wr.heap.size, 0, none⟩ = some (.int .i64 1) ∧ w'.cell? ⟨wr.heap.size, 1, none⟩ = some (.int .i64 n) ∧ w'.cell? ⟨wr.heap.size, 2, none⟩ = some (.slice la zs.length lc))
                  (first | (exact ⟨k0, k1, k2⟩) | go_keep)
                  (first
                  | (go_at_call 9; refine (HFEW.out _ (below_drew HP4.out.below)).mono ?_; rintro e w5 ⟨a5, c5, rfl, hL5, hb5⟩; have HP5 := Lib.hid (HP4.out.stay (below_next ((Below.refl _ _).drew) hb5)); have HL5 := Lib.hid hL5; have HFR5 := Lib.hid (HFR4.out.trans (Fr.of_below (below_next ((Below.refl _ _).drew) hb5))); have k0 := (HBX3.out.fr HFR5.out).cells.1; have k1 := (HBX3.out.fr HFR5.out).cells.2.1; have k2 := (HBX3.out.fr HFR5.out).cells.2.2; clear hL5 hb5)
                  | (go_at_call 11; refine (HREF.out _ _ _ HP5.out HL5.out).mono ?_; rintro e w6 ⟨rfl, b6, d6, hP6, hfr6⟩; have HP6 := Lib.hid hP6; have HFR6 := Lib.hid (HFR5.out.trans hfr6); have k0 := (HBX3.out.fr HFR6.out).cells.1; have k1 := (HBX3.out.fr HFR6.out).cells.2.1; have k2 := (HBX3.out.fr HFR6.out).cells.2.2; clear hP6 hfr6))
                all_goals
                  have HNUM := Lib.hid (HNO.out _ (HE.out.below HP6.out.below))
                  go_wp2_with fail
                  refine HNUM.out.mono ?_
                  rintro e w7 ⟨rfl, hb7⟩
                  have HP7 := Lib.hid (HP6.out.stay hb7)
                  have HFR7 := Lib.hid (HFR6.out.trans (Fr.of_below hb7))
                  clear hb7
                  go_wp2
                  go_meet
                  exact ⟨p, V2, cs2, b6, d6, rfl, rfl, HP7.out, hl2, HFR7.out⟩
              · clear hkd
                go_wp2_with fail
                refine (HCODE.out _ _ _ HP3.out (own_lh HO3.out HYI.out hyl2)).mono ?_
                rintro e w4 ⟨rfl, hP4, hfr4⟩
                have HP4 := Lib.hid hP4
                have HFR4 := Lib.hid hfr4
                have k0 := (HBX3.out.fr hfr4).cells.1
                have k1 := (HBX3.out.fr hfr4).cells.2.1
                have k2 := (HBX3.out.fr hfr4).cells.2.2
                clear hP4 hfr4
                go_wp2
                go_region_held3 (fun w' => w'.cell? ⟨wr.heap.size, 0, none⟩ = some (.int .i64 2) ∧ w'.cell? ⟨wr.heap.size, 1, none⟩ = some (.int .i64 n) ∧ w'.cell? ⟨wr.heap.size, 2, none⟩ = some (.slice la zs.length lc))
                  (first | (exact ⟨k0, k1, k2⟩) | go_keep)
                  (first
                  | (go_at_call 9; refine (HFEW.out _ (below_drew HP4.out.below)).mono ?_; rintro e w5 ⟨a5, c5, rfl, hL5, hb5⟩; have HP5 := Lib.hid (HP4.out.stay (below_next ((Below.refl _ _).drew) hb5)); have HL5 := Lib.hid hL5; have HFR5 := Lib.hid (HFR4.out.trans (Fr.of_below (below_next ((Below.refl _ _).drew) hb5))); have k0 := (HBX3.out.fr HFR5.out).cells.1; have k1 := (HBX3.out.fr HFR5.out).cells.2.1; have k2 := (HBX3.out.fr HFR5.out).cells.2.2; clear hL5 hb5)
                  | (go_at_call 11; refine (HREF.out _ _ _ HP5.out HL5.out).mono ?_; rintro e w6 ⟨rfl, b6, d6, hP6, hfr6⟩; have HP6 := Lib.hid hP6; have HFR6 := Lib.hid (HFR5.out.trans hfr6); have k0 := (HBX3.out.fr HFR6.out).cells.1; have k1 := (HBX3.out.fr HFR6.out).cells.2.1; have k2 := (HBX3.out.fr HFR6.out).cells.2.2; clear hP6 hfr6))
                all_goals
                  have HNUM := Lib.hid (HNO.out _ (HE.out.below HP6.out.below))
                  go_wp2_with fail
                  refine HNUM.out.mono ?_
                  rintro e w7 ⟨rfl, hb7⟩
                  have HP7 := Lib.hid (HP6.out.stay hb7)
                  have HFR7 := Lib.hid (HFR6.out.trans (Fr.of_below hb7))
                  clear hb7
                  go_wp2
                  go_meet
                  exact ⟨p, V2, cs2, b6, d6, rfl, rfl, HP7.out, hl2, HFR7.out⟩
              · clear hkd
                go_wp2_with fail
                refine (HCODE.out _ _ _ HP3.out (own_lh HO3.out HYI.out hyl2)).mono ?_
                rintro e w4 ⟨rfl, hP4, hfr4⟩
                have HP4 := Lib.hid hP4
                have HFR4 := Lib.hid hfr4
                have k0 := (HBX3.out.fr hfr4).cells.1
                have k1 := (HBX3.out.fr hfr4).cells.2.1
                have k2 := (HBX3.out.fr hfr4).cells.2.2
                clear hP4 hfr4
                go_wp2
                go_region_held3 (fun w' => w'.cell? ⟨wr.heap.size, 0, none⟩ = some (.int .i64 3) ∧ w'.cell? ⟨wr.heap.size, 1, none⟩ = some (.int .i64 n) ∧ w'.cell? ⟨wr.heap.size, 2, none⟩ = some (.slice la zs.length lc))
                  (first | (exact ⟨k0, k1, k2⟩) | go_keep)
                  (first
                  | (go_at_call 9; refine (HFEW.out _ (below_drew HP4.out.below)).mono ?_; rintro e w5 ⟨a5, c5, rfl, hL5, hb5⟩; have HP5 := Lib.hid (HP4.out.stay (below_next ((Below.refl _ _).drew) hb5)); have HL5 := Lib.hid hL5; have HFR5 := Lib.hid (HFR4.out.trans (Fr.of_below (below_next ((Below.refl _ _).drew) hb5))); have k0 := (HBX3.out.fr HFR5.out).cells.1; have k1 := (HBX3.out.fr HFR5.out).cells.2.1; have k2 := (HBX3.out.fr HFR5.out).cells.2.2; clear hL5 hb5)
                  | (go_at_call 11; refine (HREF.out _ _ _ HP5.out HL5.out).mono ?_; rintro e w6 ⟨rfl, b6, d6, hP6, hfr6⟩; have HP6 := Lib.hid hP6; have HFR6 := Lib.hid (HFR5.out.trans hfr6); have k0 := (HBX3.out.fr HFR6.out).cells.1; have k1 := (HBX3.out.fr HFR6.out).cells.2.1; have k2 := (HBX3.out.fr HFR6.out).cells.2.2; clear hP6 hfr6))
                all_goals
                  have HNUM := Lib.hid (HNO.out _ (HE.out.below HP6.out.below))
                  go_wp2_with fail
                  refine HNUM.out.mono ?_
                  rintro e w7 ⟨rfl, hb7⟩
                  have HP7 := Lib.hid (HP6.out.stay hb7)
                  have HFR7 := Lib.hid (HFR6.out.trans (Fr.of_below hb7))
                  clear hb7
                  go_wp2
                  go_meet
                  exact ⟨p, V2, cs2, b6, d6, rfl, rfl, HP7.out, hl2, HFR7.out⟩
              · clear hkd
                go_wp2_with fail
                refine (HCODE.out _ _ _ HP3.out (own_lh HO3.out HYI.out hyl2)).mono ?_
                rintro e w4 ⟨rfl, hP4, hfr4⟩
                have HP4 := Lib.hid hP4
                have HFR4 := Lib.hid hfr4
                have k0 := (HBX3.out.fr hfr4).cells.1
                have k1 := (HBX3.out.fr hfr4).cells.2.1
                have k2 := (HBX3.out.fr hfr4).cells.2.2
                clear hP4 hfr4
                go_wp2
                go_region_held3 (fun w' => w'.cell? ⟨wr.heap.size, 0, none⟩ = some (.int .i64 4) ∧ w'.cell? ⟨wr.heap.size, 1, none⟩ = some (.int .i64 n) ∧ w'.cell? ⟨wr.heap.size, 2, none⟩ = some (.slice la zs.length lc))
                  (first | (exact ⟨k0, k1, k2⟩) | go_keep)
                  (first
                  | (go_at_call 9; refine (HFEW.out _ (below_drew HP4.out.below)).mono ?_; rintro e w5 ⟨a5, c5, rfl, hL5, hb5⟩; have HP5 := Lib.hid (HP4.out.stay (below_next ((Below.refl _ _).drew) hb5)); have HL5 := Lib.hid hL5; have HFR5 := Lib.hid (HFR4.out.trans (Fr.of_below (below_next ((Below.refl _ _).drew) hb5))); have k0 := (HBX3.out.fr HFR5.out).cells.1; have k1 := (HBX3.out.fr HFR5.out).cells.2.1; have k2 := (HBX3.out.fr HFR5.out).cells.2.2; clear hL5 hb5)
                  | (go_at_call 11; refine (HREF.out _ _ _ HP5.out HL5.out).mono ?_; rintro e w6 ⟨rfl, b6, d6, hP6, hfr6⟩; have HP6 := Lib.hid hP6; have HFR6 := Lib.hid (HFR5.out.trans hfr6); have k0 := (HBX3.out.fr HFR6.out).cells.1; have k1 := (HBX3.out.fr HFR6.out).cells.2.1; have k2 := (HBX3.out.fr HFR6.out).cells.2.2; clear hP6 hfr6))
                all_goals
                  have HNUM := Lib.hid (HNO.out _ (HE.out.below HP6.out.below))
                  go_wp2_with fail
                  refine HNUM.out.mono ?_
                  rintro e w7 ⟨rfl, hb7⟩
                  have HP7 := Lib.hid (HP6.out.stay hb7)
                  have HFR7 := Lib.hid (HFR6.out.trans (Fr.of_below hb7))
                  clear hb7
                  go_wp2
                  go_meet
                  exact ⟨p, V2, cs2, b6, d6, rfl, rfl, HP7.out, hl2, HFR7.out⟩
            · by_cases h5 : kd = 5
              · subst h5
                clear hkd
                have hyz : ys = zs := by rw [← HYS.out]; exact few_same zs (by omega) (by omega)
                obtain ⟨rv, v, V2, cs2, hl2, hno, hcode, href⟩ := add_both w A HE.out p W1.heap.size V cs b d ys hVV hyl2 (by omega)
                have href2 := href
                rw [hyz] at href2
                have HNO := Lib.hid hno
                have HCODE := Lib.hid hcode
                have HREF := Lib.hid href2
                clear hno hcode href href2 hyz
                have HIN := Lib.hid ((own_lh HO3.out HYI.out hyl2 (base := w.heap.size)).fr (Fr.of_below ((Below.refl w3.heap.size w3).drew)) HP3.out.below.size)
                go_wp2
                go_region_held3 (fun w' => w'.cell? ⟨wr.heap.size, 2, none⟩ = some (.slice la zs.length lc))
                  (first | (exact k2) | go_keep)
                  (first
                  | (go_at_call 13; refine (HCODE.out _ _ _ (HP3.out.stay ((Below.refl _ _).drew)) HIN.out).mono ?_; rintro e w4 ⟨rfl, hP4, hfr4⟩; have HP4 := Lib.hid hP4; have HFR4 := Lib.hid ((Fr.of_below ((Below.refl w3.heap.size w3).drew)).trans hfr4); have k2 := (HBX3.out.fr HFR4.out).cells.2.2; clear hP4 hfr4)
                  | (go_at_call 12; refine (HNO.out _ (HE.out.below HP4.out.below)).mono ?_; rintro e w5 ⟨rfl, hb5⟩; have HP5 := Lib.hid (HP4.out.stay hb5); have HFR5 := Lib.hid (HFR4.out.trans (Fr.of_below hb5)); have k2 := (HBX3.out.fr HFR5.out).cells.2.2; clear hb5)
                  | (go_at_call 14; refine (HREF.out _ _ _ HP5.out (HLA.out _ HP5.out.below)).mono ?_; rintro e w6 ⟨rfl, b6, d6, hP6, hfr6⟩; have HP6 := Lib.hid hP6; have HFR6 := Lib.hid (HFR5.out.trans hfr6); have k2 := (HBX3.out.fr HFR6.out).cells.2.2; clear hP6 hfr6))
                all_goals
                  go_wp2
                  go_meet
                  exact ⟨p, V2, cs2, b6, d6, rfl, rfl, HP6.out, hl2, HFR6.out⟩
              · by_cases h6 : kd = 6
                · subst h6
                  clear hkd
                  have hyz : ys = zs := by rw [← HYS.out]; exact few_same zs (by omega) (by omega)
                  obtain ⟨rv, v, V2, cs2, hl2, hno, hcode, href⟩ := one_both w A HE.out p W1.heap.size V cs b d ys hVV hyl2 (by omega)
                  have href2 := href
                  rw [hyz] at href2
                  have HNO := Lib.hid hno
                  have HCODE := Lib.hid hcode
                  have HREF := Lib.hid href2
                  clear hno hcode href href2 hyz
                  have HIN := Lib.hid ((own_lh HO3.out HYI.out hyl2 (base := w.heap.size)).fr (Fr.of_below ((Below.refl w3.heap.size w3).drew)) HP3.out.below.size)
                  go_wp2
                  go_region_held3 (fun w' => w'.cell? ⟨wr.heap.size, 2, none⟩ = some (.slice la zs.length lc))
                    (first | (exact k2) | go_keep)
                    (first
                    | (go_at_call 15; refine (HCODE.out _ _ _ (HP3.out.stay ((Below.refl _ _).drew)) HIN.out).mono ?_; rintro e w4 ⟨rfl, hP4, hfr4⟩; have HP4 := Lib.hid hP4; have HFR4 := Lib.hid ((Fr.of_below ((Below.refl w3.heap.size w3).drew)).trans hfr4); have k2 := (HBX3.out.fr HFR4.out).cells.2.2; clear hP4 hfr4)
                    | (go_at_call 12; refine (HNO.out _ (HE.out.below HP4.out.below)).mono ?_; rintro e w5 ⟨rfl, hb5⟩; have HP5 := Lib.hid (HP4.out.stay hb5); have HFR5 := Lib.hid (HFR4.out.trans (Fr.of_below hb5)); have k2 := (HBX3.out.fr HFR5.out).cells.2.2; clear hb5)
                    | (go_at_call 16; refine (HREF.out _ _ _ HP5.out (HLA.out _ HP5.out.below)).mono ?_; rintro e w6 ⟨rfl, b6, d6, hP6, hfr6⟩; have HP6 := Lib.hid hP6; have HFR6 := Lib.hid (HFR5.out.trans hfr6); have k2 := (HBX3.out.fr HFR6.out).cells.2.2; clear hP6 hfr6))
                  all_goals
                    go_wp2
                    go_meet
                    exact ⟨p, V2, cs2, b6, d6, rfl, rfl, HP6.out, hl2, HFR6.out⟩
                · by_cases h7 : kd = 7
                  · subst h7
                    clear hkd
                    obtain ⟨rv, v, V2, ms, hno, hcode, href⟩ := many_both w A HE.out p W1.heap.size V cs b d n hVV HN64.out
                    have HNO := Lib.hid hno
                    have HCODE := Lib.hid hcode
                    have HREF := Lib.hid href
                    clear hno hcode href
                    go_wp2_with fail
                    refine (HCODE.out _ HP3.out).mono ?_
                    rintro e w4 ⟨a4, c4, hL4, rfl, hP4, hfr4⟩
                    have HP4 := Lib.hid hP4
                    have HFR4 := Lib.hid hfr4
                    have HL4 := Lib.hid hL4
                    have k1 := (HBX3.out.fr hfr4).cells.2.1
                    clear hP4 hfr4 hL4
                    go_wp2_with fail
                    refine (HREF.out _ HP4.out).mono ?_
                    rintro e w5 ⟨a5, c5, hI5, rfl, b6, d6, hP5, hfr5⟩
                    have HP5 := Lib.hid hP5
                    have HFR5 := Lib.hid (HFR4.out.trans hfr5)
                    have HSI := Lib.hid (sameInts_any a4 c4 ms a5 c5 ms w5 (HL4.out.fr hfr5 HP4.out.below.size).ints hI5)
                    rw [M.eqs_self] at HSI
                    clear hP5 hfr5 hI5
                    go_wp2_with fail
                    refine HSI.out.mono ?_
                    rintro e w6 ⟨rfl, nq, hq6⟩
                    have hb6 : Below w5.heap.size w5 w6 := by rw [hq6]; exact bDrewN _ _ _
                    have HP6 := Lib.hid (HP5.out.stay hb6)
                    have HFR6 := Lib.hid (HFR5.out.trans (Fr.of_below hb6))
                    have HNUM := Lib.hid (HNO.out _ (HE.out.below HP6.out.below))
                    clear hq6 hb6
                    go_wp2_with fail
                    refine HNUM.out.mono ?_
                    rintro e w7 ⟨rfl, hb7⟩
                    have HP7 := Lib.hid (HP6.out.stay hb7)
                    have HFR7 := Lib.hid (HFR6.out.trans (Fr.of_below hb7))
                    clear hb7
                    go_wp2
                    go_meet
                    exact ⟨p, V2, cs, b6, d6, rfl, rfl, HP7.out, by omega, HFR7.out⟩
                  · by_cases h8 : kd = 8
                    · subst h8
                      clear hkd
                      go_wp2_with fail
                      refine (clone_both w p W1.heap.size V cs b d w3 HP3.out).mono ?_
                      rintro e w4 ⟨p4, m4, rfl, hC4, hfr4⟩
                      have HC4 := Lib.hid hC4
                      have HFR4 := Lib.hid hfr4
                      clear hC4 hfr4
                      go_wp2_with fail
                      refine (cvar_both w A HE.out p p4 W1.heap.size V V cs cs b d _ m4 w4 HC4.out).mono ?_
                      rintro e w5 ⟨u5, Vo, rfl, hv5, hC5, hfr5⟩
                      have HC5 := Lib.hid hC5
                      have HFR5 := Lib.hid (HFR4.out.trans hfr5)
                      clear hC5 hfr5
                      go_wp2_with fail
                      refine (cadd_both w p p4 W1.heap.size V Vo cs cs b d _ m4 w5 HC5.out hv5 (by omega)).mono ?_
                      rintro e w6 ⟨rfl, cso, hC6, hfr6⟩
                      have HP6 := Lib.hid hC6.ps
                      have HFR6 := Lib.hid (HFR5.out.trans hfr6)
                      clear hC6 hfr6
                      go_wp2
                      go_meet
                      exact ⟨p4, V, cs, b, d, rfl, rfl, HP6.out, by omega, HFR6.out⟩
                    · have e1 : (kd == 1) = false := by simp; omega
                      have e2 : (kd == 2) = false := by simp; omega
                      have e3 : (kd == 3) = false := by simp; omega
                      have e4 : (kd == 4) = false := by simp; omega
                      have e5 : (kd == 5) = false := by simpa using h5
                      have e6 : (kd == 6) = false := by simpa using h6
                      have e7 : (kd == 7) = false := by simpa using h7
                      have e8 : (kd == 8) = false := by simpa using h8
                      clear hkd h5 h6 h7 h8
                      go_wp2
                      go_meet
                      exact ⟨p, V, cs, b, d, rfl, rfl, HP3.out, by omega, Fr.refl _ _⟩
          case rest =>
            obtain ⟨p2, V2, cs2, b2, d2, rfl, rfl, hP2, hl2, hfr⟩ := hcut
            have HP2 := Lib.hid hP2
            have HFR := Lib.hid hfr
            have hS : ∀ W, Below wc.heap.size wc W → W.cell? ⟨W1.heap.size, 0, none⟩ = some (.int .i64 V2) ∧ W.cell? ⟨wr.heap.size, 0, none⟩ = some (.int .i64 kd) ∧ W.cell? ⟨wr.heap.size, 1, none⟩ = some (.int .i64 n) ∧ W.cell? ⟨wr.heap.size, 2, none⟩ = some (.slice la zs.length lc) := fun W hW => by
              have h := (HBX3.out.fr (HFR.out.trans (Fr.of_below hW))).cells
              exact ⟨(HP2.out.stay hW).rf.cell0, h.1, h.2.1, h.2.2⟩
            have HS := Lib.hid hS
            obtain ⟨fa, fc, hF2⟩ := hP2.fm
            have hvars : ∀ W, Below wc.heap.size wc W → Calls Tryd.prog 22 #[.pointer (some ⟨p2, 0, none⟩)] W fun e W' => e = .returned (.int .i64 V2) ∧ Below wc.heap.size wc W' := fun W hW =>
              (vars_any p2 V2 W (hF2.below hW).cell0).mono fun e W' ⟨h1, h2⟩ => ⟨h1, h2 ▸ hW⟩
            have hcla : ∀ W, Below wc.heap.size wc W → Calls Tryd.prog 24 #[.pointer (some ⟨p2, 0, none⟩)] W fun e W' => ∃ ra, e = .returned (.slice (some ⟨ra, 0, none⟩) cs2.length cs2.length) ∧ Cls W' (some ⟨ra, 0, none⟩) cs2 ∧ Below wc.heap.size wc W' := fun W hW =>
              (clauses_any (Y := NoX) w.heap.size p2 V2 cs2 fa fc W (hF2.below hW) (NoX.lt _)).mono fun e W' ⟨h1, h2, h3⟩ => ⟨_, h1, h2.cls (by omega), below_next hW h3⟩
            have hsam : ∀ W ra, Below wc.heap.size wc W → Cls W (some ⟨ra, 0, none⟩) cs2 → Calls Tryd.prog 23 #[.pointer (some ⟨W1.heap.size, 0, none⟩), .slice (some ⟨ra, 0, none⟩) cs2.length cs2.length] W fun e W' => e = .returned (.bool true) ∧ Below wc.heap.size wc W' := fun W ra hW hC =>
              (rsame_any w.heap.size W1.heap.size V2 cs2 b2 d2 _ _ W (HP2.out.stay hW).rf hC).mono fun e W' ⟨h1, h2⟩ => ⟨h1, below_next hW h2⟩
            have hkep : ∀ W a5 c5, Below wc.heap.size wc W → Ints W a5 ys → Calls Tryd.prog 25 #[.slice (some ⟨g, 0, none⟩) ys.length cg, .slice a5 ys.length c5] W fun e W' => e = .returned (.bool true) ∧ Below wc.heap.size wc W' := fun W a5 c5 hW hI =>
              (keptInts_any w2.heap.size g cg ys a5 c5 W ((HFR.out.own HO3.out).below hW) hI (by omega)).mono fun e W' ⟨h1, h2⟩ => ⟨h1, below_next hW h2⟩
            have HVARS := Lib.hid hvars
            have HCLA := Lib.hid hcla
            have HSAM := Lib.hid hsam
            have HKEP := Lib.hid hkep
            have en : ((V2 : Int) != (V2 : Int)) = false := by simp
            clear hS hvars hcla hsam hkep hP2 hfr hF2 k0 k1 k2
            go_wp2
            go_region_held3 (fun W => W.cell? ⟨W1.heap.size, 0, none⟩ = some (.int .i64 V2) ∧ W.cell? ⟨wr.heap.size, 0, none⟩ = some (.int .i64 kd) ∧ W.cell? ⟨wr.heap.size, 1, none⟩ = some (.int .i64 n) ∧ W.cell? ⟨wr.heap.size, 2, none⟩ = some (.slice la zs.length lc))
              (first | exact HS.out _ HB8.out | exact HS.out _ HB7.out | exact HS.out _ HB6.out | exact HS.out _ HB5.out | exact HS.out _ HB4.out | exact HS.out _ ((Below.refl _ _).drew))
              (first
              | (go_at_call 22; refine (HVARS.out _ ((Below.refl _ _).drew)).mono ?_; rintro e w4 ⟨rfl, hb4⟩; have HB4 := Lib.hid hb4; clear hb4)
              | (go_at_call 24; refine (HCLA.out _ HB4.out).mono ?_; rintro e w5 ⟨ra, rfl, hC5, hb5⟩; have HB5 := Lib.hid hb5; have HC5 := Lib.hid hC5; clear hb5 hC5)
              | (go_at_call 23; refine (HSAM.out _ _ HB5.out HC5.out).mono ?_; rintro e w6 ⟨rfl, hb6⟩; have HB6 := Lib.hid hb6; clear hb6)
              | (go_at_call 9; refine (HFEW.out _ (HP2.out.stay HB6.out).below).mono ?_; rintro e w7 ⟨a7, c7, rfl, hL7, hb7⟩; have HB7 := Lib.hid (below_next HB6.out hb7); have HL7 := Lib.hid hL7; clear hL7 hb7)
              | (go_at_call 25; refine (HKEP.out _ _ _ HB7.out HL7.out.ints).mono ?_; rintro e w8 ⟨rfl, hb8⟩; have HB8 := Lib.hid hb8; clear hb8))
            all_goals
              go_wp2
              go_roundw
              case rel => exact ⟨k + 1, p2, V2, cs2, b2, d2, by omega, by go_num, rfl, HP2.out.stay HB8.out, by omega⟩
              case measure => simp [intOf]; omega
        · go_wp2
          go_ret
          exact ⟨rfl, below_next HP.out.below (below_alloc (Below.refl _ _) _)⟩
      · go_wp2
        go_ret
        exact ⟨rfl, HP.out.below⟩
  · go_wp2
    go_ret
    exact ⟨rfl, HB0.out⟩
end Go.Proofs.YtgpifbhfnbkgoaaDoor

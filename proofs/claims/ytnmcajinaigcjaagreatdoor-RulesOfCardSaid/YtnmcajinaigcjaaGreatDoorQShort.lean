/- Contracts of slices.Clone at items, version.Shorter. -/
import Derived.Test.YtnmcajinaigcjaaGreatDoorQVer2
import Derived.Test.YtnmcajinaigcjaaGreatDoorQOwn
import Derived.Deep.RegionLaw
namespace Go.Proofs.YtnmcajinaigcjaaGreatDoor
open Go.RowKit
open Q (It Ver Tm Sp Rc Dm)

theorem Tryz.infoItem : (Tryz.prog.info? 181).map (fun i => (i.zero, i.size, i.bytes)) = some (some (.agg #[.int .i64 0, .string ⟨#[]⟩]), 2, 24) := by kernel_rfl
theorem Tryz.infoItems : (Tryz.prog.info? 179).map (fun i => (i.zero, i.size, i.bytes)) = some (some (.slice none 0 0), 1, 24) := by kernel_rfl
theorem RIt.ones (w : World) : ∀ us x, RIt w us x → ∀ u ∈ us, u.oneCell' = true := fun us x h u hu => by
  rw [h.1] at hu; simp at hu; rcases hu with rfl | rfl <;> rfl
/-- it lies among items -/
def TagIt (w : World) (a : Option Addr) : Prop := ∀ ad, a = some ad → ∃ cur m, w.heap[ad.block]? = some (.cells cur 181 m)
/-- a new list of items -/
def NewIts (w : World) (xs : List It) (e : Ending) (w' : World) : Prop := ∃ a c, e = .returned (.slice a xs.length c) ∧ (xs.length ≤ c ∧ (a = none → c = 0)) ∧ Sl RIt 2 w' a xs ∧ TagIt w' a ∧ Below w.heap.size w w'
theorem Own.tagIt {w : World} {base : Nat} {a : Option Addr} {c n : Nat} {cells : List Value} (h : Own 181 2 w base a c n cells) : TagIt w a := fun ad e => by
  rcases h.parts with ⟨rfl, _⟩ | ⟨g, cur, rfl, hb, hlt, hg, _⟩
  · cases e
  · cases e; exact ⟨cur, _, hg⟩
set_option maxHeartbeats 1000000 in
theorem cloneIt_any (a : Option Addr) (c : Nat) (xs : List It) (w : World) (h : Sl RIt 2 w a xs) (hd : a = none → c = 0) :
    Calls Tryz.prog 154 #[.slice a xs.length c] w (NewIts w xs) := by
  have hlen := h.len
  have q22 : ∀ (w : World) (a : Option Addr) (n c n' c' : Nat), (binOp .eql 179 (.slice a n c) (.slice none n' c')).run Tryz.prog w = .ok (.bool a.isNone) w := fun w a n c n' c' => Lib.run_eql_slice_nil w _ _ a n c n' c' Tryz.underlying179
  cases a with
  | none =>
    have e0 : xs = [] := by
      cases xs with
      | nil => rfl
      | cons z l => obtain ⟨_, _, e, _⟩ := h.addr (by simp); cases e
    subst e0
    obtain rfl := hd rfl
    go_enter Tryz.func154, Tryz.ntmps154
    go_wp2
    go_ret
    exact ⟨none, 0, rfl, ⟨Nat.le_refl _, fun _ => rfl⟩, sl_nil, (fun ad e => by cases e), Below.refl _ _⟩
  | some ad =>
    have HH := Lib.hid h
    clear h hd
    go_enter Tryz.func154, Tryz.ntmps154
    go_wp2_with (at_builtin; refine wpList_append_flat Tryz.infoItem rfl (by decide) rfl (.tmp 5) (.tmp 6) 179 rfl Tryz.underlying179 w.heap.size _ _ _ [] rfl (Own.made0 _ 2 w _ (Nat.le_refl _)) _ _ _ xs rfl rfl (HH.out.below stays_RIt ((Below.refl _ _).alloc (Nat.le_refl _) _)) (RIt.ones _) (fun e => by cases e) (by omega) (by omega) (by simp) ?_; intro a1 c1 w1 cells1 hown1 hF1 hg1 hB1; have HB1 := Lib.hid hB1; have HO1 := Lib.hid hown1; have HF1 := Lib.hid hF1; clear hg1 hown1 hB1 hF1)
    go_ret
    have ho : Own 181 2 w1 w.heap.size a1 c1 xs.length cells1 := by have := HO1.out; simpa using this
    exact ⟨a1, c1, rfl, ho.cap, ho.sl (HF1.out.mono fun us x _ h => h) hlen, ho.tagIt, ((Below.refl _ _).alloc (Nat.le_refl _) _).trans HB1.out⟩
theorem tagIt_alloc {w : World} {a : Option Addr} (h : TagIt w a) (o : Obj) : TagIt (w.alloc o) a := fun ad e => by
  obtain ⟨cur, m, hh⟩ := h ad e; exact ⟨cur, m, (((Below.refl w.heap.size w).alloc (Nat.le_refl _) o).block _ (Array.getElem?_eq_some_iff.1 hh).1).trans hh⟩
/-- a row of items in a new block of its own -/
def RItT : Rd (List It) := fun w us x => ∃ a c, us = [.slice a x.length c] ∧ (x.length ≤ c ∧ (a = none → c = 0)) ∧ Sl RIt 2 w a x ∧ TagIt w a
theorem RItT.same {w w' : World} {us : List Value} {x : List It} (h : RItT w us x) (hs : w.heap.size ≤ w'.heap.size) (he : ∀ (b : Nat) (cur : Array Value) (m : Nat × Nat), w.heap[b]? = some (Obj.cells cur 181 m) → w'.heap[b]? = w.heap[b]?) : RItT w' us x := by
  obtain ⟨a, c, h1, h2, h3, h4⟩ := h
  refine ⟨a, c, h1, h2, h3.same hs (fun _ _ h => h) (fun ad e => ?_), fun ad e => ?_⟩
  · obtain ⟨cur, m, hh⟩ := h4 ad e; exact he _ _ _ hh
  · obtain ⟨cur, m, hh⟩ := h4 ad e; exact ⟨cur, m, (he _ _ _ hh).trans hh⟩
/-- where Shorter's loop stands -/
structure ShInv (w : World) (base bx : Nat) (ep : Int) (xs : List (List It)) (wr : World) (k : Nat) (a : Option Addr) (c : Nat) (vs : List Value) : Prop where
  below : Below w.heap.size w wr
  bxw : w.heap.size ≤ bx
  bxp : 1 ≤ bx
  bxb : bx < base
  size : base ≤ wr.heap.size
  box : wr.heap[bx]? = some (.cells #[.int .i64 ep, .slice a k c, .slice none 0 0] 66 (0, 0))
  own : Own 179 1 wr base a c k vs
  rows : Flat RItT 1 wr (xs.take k) vs
  le : k ≤ xs.length
  res : wr.heap[bx - 1]? = some (.cells #[.int .i64 0, .slice none 0 0, .slice none 0 0] 66 (0, 0))
theorem ShInv.cells {w wr : World} {base bx k c : Nat} {ep : Int} {xs : List (List It)} {a : Option Addr} {vs : List Value} (h : ShInv w base bx ep xs wr k a c vs) :
    wr.cell? ⟨bx, 0, none⟩ = some (.int .i64 ep) ∧ wr.cell? ⟨bx, 1, none⟩ = some (.slice a k c) ∧ wr.cell? ⟨bx, 2, none⟩ = some (.slice none 0 0) := by
  refine ⟨?_, ?_, ?_⟩ <;> (rw [cell_of_cells h.box]; rfl)
theorem ShInv.mono {w wr w2 : World} {base bx k c : Nat} {ep : Int} {xs : List (List It)} {a : Option Addr} {vs : List Value} (h : ShInv w base bx ep xs wr k a c vs) (hb : Below wr.heap.size wr w2) : ShInv w base bx ep xs w2 k a c vs :=
  ⟨fin h.below hb, h.bxw, h.bxp, h.bxb, Nat.le_trans h.size hb.size, (hb.block bx (by have := h.bxb; have := h.size; omega)).trans h.box, h.own.below hb,
    h.rows.mono fun us x _ hr => RItT.same hr hb.size fun b cur m hh => hb.block b (Array.getElem?_eq_some_iff.1 hh).1, h.le, (hb.block _ (Array.getElem?_eq_some_iff.1 h.res).1).trans h.res⟩
theorem ShInv.step {w wr w3 : World} {base bx k c c1 c' : Nat} {ep : Int} {xs : List (List It)} {a a1 a' : Option Addr} {vs : List Value} {x : List It} (h : ShInv w base bx ep xs wr k a c vs) (hx : xs[k]? = some x)
    (h1 : x.length ≤ c1 ∧ (a1 = none → c1 = 0)) (h2 : Sl RIt 2 wr a1 x) (h3 : TagIt wr a1) (ho : Own 179 1 w3 base a' c' (k + 1) (vs ++ [.slice a1 x.length c1])) (hg : wr.grownBy w3 (Value.slice a k c).ownBlock) :
    ShInv w base bx ep xs (w3.setCell ⟨bx, 1, none⟩ (.slice a' (k + 1) c')) (k + 1) a' c' (vs ++ [.slice a1 x.length c1]) := by
  have hkl : k < xs.length := (List.getElem?_eq_some_iff.1 hx).1
  have hs := hg.size
  have hbl : Below w.heap.size w w3 := h.below.grown hg (Nat.le_trans (Nat.le_trans h.bxw (Nat.le_of_lt h.bxb)) h.size) (fun q hq => Nat.le_trans (Nat.le_trans h.bxw (Nat.le_of_lt h.bxb)) (ownBlock_ge h.own q _ hq))
  have hbx3 : w3.heap[bx]? = wr.heap[bx]? := hg.block bx (by have := h.bxb; have := h.size; omega) (fun e => by have := ownBlock_ge h.own bx k e.symm; have := h.bxb; omega)
  have hit : ∀ (b : Nat) (cur : Array Value) (m : Nat × Nat), wr.heap[b]? = some (Obj.cells cur 181 m) → (w3.setCell ⟨bx, 1, none⟩ (.slice a' (k + 1) c')).heap[b]? = wr.heap[b]? := by
    intro b cur m hh
    have hne : b ≠ bx := fun e => by subst e; rw [h.box] at hh; simp at hh
    rw [Below.heap_setCell _ _ _ _ hne]
    refine hg.block b (Array.getElem?_eq_some_iff.1 hh).1 (fun e => ?_)
    cases ha : a with
    | none => rw [ha] at e; simp [Value.ownBlock] at e
    | some ad =>
      rw [ha] at e
      simp [Value.ownBlock] at e
      obtain ⟨_, _, cur', m', ht⟩ := h.own.tag ad ha
      rw [← e, hh] at ht; simp at ht
  have hsz : wr.heap.size ≤ (w3.setCell ⟨bx, 1, none⟩ (.slice a' (k + 1) c')).heap.size := by simp [World.setCell]; exact hs
  refine ⟨hbl.setCell h.bxw _, h.bxw, h.bxp, h.bxb, Nat.le_trans h.size hsz, ?_, ho.same fun g e => ?_, ?_, hkl, ?_⟩
  · rw [heap_setCell_same w3 bx 1 _ _ _ (hbx3.trans h.box)]; rfl
  · refine Below.heap_setCell _ _ _ _ fun e2 => ?_
    have h5 := (ho.tag _ e).1
    have h6 := h.bxb
    have e3 : g = bx := e2
    have h7 : base ≤ g := h5
    omega
  · rw [List.take_add_one, hx]
    refine Flat.append (h.rows.mono fun us y _ hr => RItT.same hr hsz hit) ⟨by simp, fun i y hy => ?_⟩
    match i, hy with
    | 0, hy =>
      simp at hy; subst hy
      refine ⟨[.slice a1 x.length c1], rfl, fun j hj => ?_, a1, c1, rfl, h1, ?_, ?_⟩
      · obtain rfl : j = 0 := by omega
        rfl
      · exact h2.same hsz (fun _ _ h => h) (fun ad e => by obtain ⟨cur, m, hh⟩ := h3 ad e; exact hit _ _ _ hh)
      · intro ad e; obtain ⟨cur, m, hh⟩ := h3 ad e; exact ⟨cur, m, (hit _ _ _ hh).trans hh⟩
  · have hr := h.res
    refine (Below.heap_setCell _ _ _ _ ?_).trans ((hg.block _ (Array.getElem?_eq_some_iff.1 hr).1 fun e => ?_).trans hr)
    · intro e
      have e3 : bx - 1 = bx := e
      have h5 := h.bxp
      omega
    · have := ownBlock_ge h.own (bx - 1) k e.symm; have := h.bxb; omega
theorem ShInv.keepBox {w wr w3 : World} {base bx k c : Nat} {ep : Int} {xs : List (List It)} {a : Option Addr} {vs : List Value} (h : ShInv w base bx ep xs wr k a c vs) (hg : wr.grownBy w3 (Value.slice a k c).ownBlock) : w3.cell? ⟨bx, 1, none⟩ = some (.slice a k c) :=
  (World.cell?_of_block (a := ⟨bx, 1, none⟩) (hg.block bx (by have := h.bxb; have := h.size; omega) (fun e => by have := ownBlock_ge h.own bx k e.symm; have := h.bxb; omega))).trans h.cells.2.1
theorem ShInv.keepFz {w wr w3 : World} {base bx k c : Nat} {ep : Int} {xs : List (List It)} {a : Option Addr} {vs : List Value} (h : ShInv w base bx ep xs wr k a c vs) (hg : wr.grownBy w3 (Value.slice a k c).ownBlock) : w3.frozen? ⟨bx, 1, none⟩ = false :=
  (World.frozen?_of_block (a := ⟨bx, 1, none⟩) (hg.block bx (by have := h.bxb; have := h.size; omega) (fun e => by have := ownBlock_ge h.own bx k e.symm; have := h.bxb; omega))).trans (by simp [World.frozen?, h.box])
theorem heap_alloc_keep {w : World} {n : Nat} {x : Obj} (h : w.heap[n]? = some x) (o : Obj) : (w.alloc o).heap[n]? = some x := (((Below.refl w.heap.size w).alloc (Nat.le_refl _) o).block n (Array.getElem?_eq_some_iff.1 h).1).trans h
theorem heap_alloc_new2 (w : World) (o : Obj) {n : Nat} (h : w.heap.size = n) : (w.alloc o).heap[n]? = some o := by subst h; exact heap_alloc_new w o
theorem Own.sl' {α : Type} {R : Rd α} {e k n : Nat} {w : World} {base : Nat} {a : Option Addr} {c : Nat} {xs : List α} {cells : List Value} (hn : xs.length = n) (h : Own e k w base a c n cells) (hF : Flat R k w xs cells) (hl : xs.length ≤ 5864062014805) : Sl R k w a xs := by
  subst hn; exact h.sl hF hl
/-- the sentinel of wrong ranges lies there -/
def ErrR (w : World) (ad : Addr) : Prop := w.cell? ⟨1, 0, none⟩ = some (.iface 226 (.pointer (some ad)))
theorem ErrR.lt {w : World} {ad : Addr} (h : ErrR w ad) : 1 < w.heap.size := by
  rcases Nat.lt_or_ge 1 w.heap.size with h' | h'
  · exact h'
  · unfold ErrR World.cell? at h; rw [Array.getElem?_eq_none (by simpa using h')] at h; simp at h
theorem ErrR.below {w w' : World} {ad : Addr} (h : ErrR w ad) (hb : Below w.heap.size w w') : ErrR w' ad := (hb.cell (p := ⟨1, 0, none⟩) h.lt).trans h
/-- a shorter version came back -/
def IsShort (w : World) (v : Ver) (e : Ending) (w' : World) : Prop := ∃ a c, e = .returned (.tuple #[.agg #[.int .i64 v.ep, .slice a (v.parts.length - 1) c, .slice none 0 0], .nilIface]) ∧ Rows2 w' a (v.parts.take (v.parts.length - 1)) ∧ Below w.heap.size w w'
set_option maxHeartbeats 1000000 in
set_option maxRecDepth 100000 in
theorem shorter_bad (v : Ver) (pa la : Option Addr) (pc lc : Nat) (w : World) (ad : Addr) (hp : v.parts.length < 2) (hE : ErrR w ad) :
    Calls Tryz.prog 132 #[.agg #[.int .i64 v.ep, .slice pa v.parts.length pc, .slice la v.loc.length lc]] w fun e w' => e = .returned (.tuple #[.agg #[.int .i64 0, .slice none 0 0, .slice none 0 0], .iface 226 (.pointer (some ad))]) ∧ Below w.heap.size w w' := by
  have hE1 := hE
  have hlt := hE.lt
  have hlt0 : 0 < w.heap.size := Nat.lt_of_le_of_lt (Nat.zero_le _) hlt
  unfold ErrR at hE1
  go_enter Tryz.func132, Tryz.ntmps132
  go_wp2
  go_region
  all_goals
    go_wp2
    exact bodyPost_ret (v := .tuple #[.agg #[.int .i64 0, .slice none 0 0, .slice none 0 0], .iface 226 (.pointer (some ad))]) (by simp [results, Tryz.results132, go_sem]) rfl ⟨rfl, (((Below.refl _ _).alloc (Nat.le_refl _) _).alloc (by simp) _).drew⟩
set_option maxHeartbeats 1000000 in
set_option maxRecDepth 100000 in
theorem shorter_ok (v : Ver) (pa la : Option Addr) (pc lc : Nat) (w : World) (hp : 2 ≤ v.parts.length) (hz : Rows2 w pa v.parts) (hc : v.parts.length ≤ pc) :
    Calls Tryz.prog 132 #[.agg #[.int .i64 v.ep, .slice pa v.parts.length pc, .slice la v.loc.length lc]] w (IsShort w v) := by
  have hlen := hz.len
  have HZ := Lib.hid hz
  clear hz
  go_enter Tryz.func132, Tryz.ntmps132
  have HX : ∀ wr, Below w.heap.size w wr → ∀ k, k < v.parts.length - 1 → ∃ b off a' c' x, pa = some ⟨b, off, none⟩ ∧ v.parts[k]? = some x ∧ wr.cell? ⟨b, off + k, none⟩ = some (.slice a' x.length c') ∧ x.length ≤ c' ∧ (a' = none → c' = 0) ∧ Sl RIt 2 wr a' x := by
    intro wr hb k hk
    obtain ⟨x, hx⟩ : ∃ x, v.parts[k]? = some x := ⟨v.parts[k], by simp⟩
    obtain ⟨b, off, a', c', e, _, h1, ⟨h2, h3⟩, h4⟩ := (HZ.out.below hb).cell1 hx
    exact ⟨b, off, a', c', x, e, hx, h1, h2, h3, h4⟩
  have HHX := Lib.hid HX
  clear HX
  go_wp2
  generalize hW : ((w.alloc _).alloc _).alloc _ = W
  have hI : ShInv w (w.heap.size + 3) (w.heap.size + 2) v.ep (v.parts.take (v.parts.length - 1)) W 0 none 0 [] := by
    have hbx : W.heap[w.heap.size + 2]? = some (Obj.cells #[.int .i64 v.ep, .slice none 0 0, .slice none 0 0] 66 (0, 0)) := by
      rw [← hW]
      exact heap_alloc_new2 _ _ (by simp)
    have hz3 : W.heap.size = w.heap.size + 3 := by rw [← hW]; simp
    have hb3 : Below w.heap.size w W := by rw [← hW]; exact (((Below.refl _ _).alloc (Nat.le_refl _) _).alloc (by simp) _).alloc (by simp; omega) _
    exact ⟨hb3, by omega, by omega, by omega, by omega, hbx, Own.nil _ _ _ _, by simpa using Flat.nil _ _ _, Nat.zero_le _, by rw [← hW]; exact heap_alloc_keep (heap_alloc_new2 _ _ (by simp)) _⟩
  have HI := Lib.hid hI
  clear hI hW
  go_loopw [6, 24] (fun _ i wr => ∃ (k : Nat) (a : Option Addr) (c : Nat) (vs : List Value), k ≤ v.parts.length - 1 ∧ i = .int .i64 k ∧ ShInv w (w.heap.size + 3) (w.heap.size + 2) v.ep (v.parts.take (v.parts.length - 1)) wr k a c vs) (fun _ i _ => v.parts.length - 1 - (intOf i).toNat)
  case atStart => exact ⟨0, none, 0, [], Nat.zero_le _, rfl, HI.out⟩
  case round =>
    obtain ⟨k, a, c, vs, hk, rfl, hJ⟩ := hrel
    by_cases hlt : k < v.parts.length - 1
    · obtain ⟨b, off, a', c', x, rfl, hx, hcell, hcl, hnn, hsl⟩ := HHX.out _ hJ.below k hlt
      obtain ⟨r0, r1, r2⟩ := hJ.cells
      have HJ := Lib.hid hJ
      have HXK := Lib.hid hx
      have HSL := Lib.hid hsl
      have HNN := Lib.hid hnn
      clear hJ hx hsl hnn
      go_wp2
      go_region_law
        (first
        | (go_simp; go_at_call 154; (with_reducible refine (cloneIt_any _ _ _ _ (HSL.out.below stays_RIt ((Below.refl _ _).drew)) HNN.out).mono ?_); rintro e w2 ⟨a1, c1, rfl, hc1, hs1, ht1, hb1⟩; have HJ2 := Lib.hid (HJ.out.mono (((Below.refl _ _).drew).trans hb1)); have hq2 := HJ2.out.cells.2.1; have hz2 : w.heap.size + 2 < w2.heap.size := (by have := HJ2.out.size; omega); have HS1 := Lib.hid hs1; have HT1 := Lib.hid ht1; clear hs1 ht1 hb1)
        | (refine step_append1 Tryz.infoItems rfl rfl (.tmp 29) (.tmp 32) 64 rfl Tryz.underlying64 (w.heap.size + 3) a k c vs rfl (HJ2.out.mono ((Below.refl _ _).alloc (Nat.le_refl _) _)).own _ (.slice a1 x.length c1) rfl ?_ rfl (by omega) (by omega) ((HJ2.out.mono ((Below.refl _ _).alloc (Nat.le_refl _) _)).size) ?_; (focus (simp; done)); intro a3 c3 w3 hO3 hG3 hB3; have hK3 := ShInv.keepBox (HJ2.out.mono ((Below.refl _ _).alloc (Nat.le_refl _) _)) hG3; have hF3 := ShInv.keepFz (HJ2.out.mono ((Below.refl _ _).alloc (Nat.le_refl _) _)) hG3; have HO3 := Lib.hid hO3; have HG3 := Lib.hid hG3; clear hO3 hG3 hB3))
      all_goals
        go_wp2
        go_roundw
        case rel => exact ⟨k + 1, a3, c3, _, by omega, by go_num, (HJ2.out.mono ((Below.refl _ _).alloc (Nat.le_refl _) _)).step (by rw [List.getElem?_take, if_pos hlt]; exact HXK.out) hc1 (HS1.out.below stays_RIt ((Below.refl _ _).alloc (Nat.le_refl _) _)) (tagIt_alloc HT1.out _) HO3.out HG3.out⟩
        case measure => simp [intOf]; omega
    · obtain ⟨r0, r1, r2⟩ := hJ.cells
      have HJ := Lib.hid hJ
      have hsz := hJ.size
      have hres : wr.heap[w.heap.size + 1]? = some (Obj.cells #[.int .i64 0, .slice none 0 0, .slice none 0 0] 66 (0, 0)) := hJ.res
      obtain ⟨f0, f1, f2⟩ : wr.frozen? ⟨w.heap.size + 1, 0, none⟩ = false ∧ wr.frozen? ⟨w.heap.size + 1, 1, none⟩ = false ∧ wr.frozen? ⟨w.heap.size + 1, 2, none⟩ = false := by simp [World.frozen?, hres]
      obtain ⟨s0, s1, s2⟩ : wr.cell? ⟨w.heap.size + 1, 0, none⟩ = some (.int .i64 0) ∧ wr.cell? ⟨w.heap.size + 1, 1, none⟩ = some (.slice none 0 0) ∧ wr.cell? ⟨w.heap.size + 1, 2, none⟩ = some (.slice none 0 0) := by
        refine ⟨?_, ?_, ?_⟩ <;> (rw [cell_of_cells hres]; rfl)
      have HRES := Lib.hid hres
      clear hJ hres
      go_wp2
      have hke : k = v.parts.length - 1 := by omega
      subst hke
      have hn3 : ∀ b, b ≠ w.heap.size + 1 → (((wr.setCell ⟨w.heap.size + 1, 0, none⟩ (.int .i64 v.ep)).setCell ⟨w.heap.size + 1, 1, none⟩ (.slice a (v.parts.length - 1) c)).setCell ⟨w.heap.size + 1, 2, none⟩ (.slice none 0 0)).heap[b]? = wr.heap[b]? := by
        intro b hb
        rw [Below.heap_setCell _ _ _ _ hb, Below.heap_setCell _ _ _ _ hb, Below.heap_setCell _ _ _ _ hb]
      have hsz3 : wr.heap.size ≤ (((wr.setCell ⟨w.heap.size + 1, 0, none⟩ (.int .i64 v.ep)).setCell ⟨w.heap.size + 1, 1, none⟩ (.slice a (v.parts.length - 1) c)).setCell ⟨w.heap.size + 1, 2, none⟩ (.slice none 0 0)).heap.size := by simp [World.setCell]
      have hown3 := HJ.out.own.same (fun g e => hn3 g (by have h5 := (HJ.out.own.tag _ e).1; simp at h5; omega))
      have hrow3 : Flat (RS RIt 2) 1 _ ((v.parts.take (v.parts.length - 1)).take (v.parts.length - 1)) vs := HJ.out.rows.mono fun us x _ hr => by
        have hr3 := RItT.same hr hsz3 (fun b cur m hh => hn3 b (fun e => by rw [e, HRES.out] at hh; simp at hh))
        obtain ⟨q1, q2, q3, q4, q5, _⟩ := hr3
        exact ⟨q1, q2, q3, q4, q5⟩
      rw [List.take_take, Nat.min_self] at hrow3
      have htl : (v.parts.take (v.parts.length - 1)).length = v.parts.length - 1 := by simp
      refine bodyPost_ret (v := .tuple #[.agg #[.int .i64 v.ep, .slice a (v.parts.length - 1) c, .slice none 0 0], .nilIface]) (by simp [results, Tryz.results132, go_sem, s0, s1, s2]) rfl ⟨a, c, rfl, ?_, ((HJ.out.below.setCell (by simp) _).setCell (by simp) _).setCell (by simp) _⟩
      exact Own.sl' htl hown3 hrow3 (by rw [htl]; omega)
end Go.Proofs.YtnmcajinaigcjaaGreatDoor

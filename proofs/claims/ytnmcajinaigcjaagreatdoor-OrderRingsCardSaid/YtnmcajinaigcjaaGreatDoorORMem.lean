/- The memory of order.Rings: the rings that wait, those that are listed, the map of places. -/
import Derived.Test.YtnmcajinaigcjaaGreatDoorOB
import Derived.Test.YtnmcajinaigcjaaGreatDoorOA
import Derived.Test.YtnmcajinaigcjaaGreatDoorORgs
namespace Go.Proofs.YtnmcajinaigcjaaGreatDoor
open Go.RowKit
open Q (It Ver Tm Sp Rc Dm)

theorem map_erase {α β : Type} (f : α → β) (xs : List α) (k : Nat) : (xs.eraseIdx k).map f = (xs.map f).eraseIdx k := by
  rw [← eraseIdx_parts, ← eraseIdx_parts, List.map_append, List.map_take, List.map_drop]
/-- w1: the world behind newSorter; H: the map's block, behind all rings; xs: all rings; ys wait; zs are listed -/
structure GM (w1 : World) (H : Nat) (xs ys zs : List Hd) (wa : Option Addr) (wc : Nat) (la : Option Addr) (lc : Nat) (w' : World) : Prop where
  bel : Below w1.heap.size w1 w'
  wt : Own 31 1 w' (w1.heap.size + 2) wa wc ys.length (ys.map RowV)
  wlt : ∀ ad, wa = some ad → ad.block < H ∧ ∀ x ∈ xs, ad.block ≠ x.1
  row : ∀ x ∈ xs, OwnN w' (w1.heap.size + 2) (some ⟨x.1, 0, none⟩) x.2.1 x.2.2 ∧ x.1 < H
  ls : Own 31 1 w' (H + 1) la lc zs.length (zs.map RowV)
  ysub : ∀ x ∈ ys, x ∈ xs
  zsub : ∀ x ∈ zs, x ∈ xs
  lt : w1.heap.size ≤ H
  sz : H < w'.heap.size
theorem GM.kept {w1 : World} {H : Nat} {xs ys zs : List Hd} {wa : Option Addr} {wc : Nat} {la : Option Addr} {lc : Nat} {w' w2 : World} (h : GM w1 H xs ys zs wa wc la lc w') (hg : w'.grownBy w2 (some H)) : GM w1 H xs ys zs wa wc la lc w2 := by
  have hb : ∀ b, b < w'.heap.size → b ≠ H → w2.heap[b]? = w'.heap[b]? := fun b hb hn => hg.block b hb fun e => hn (Option.some.inj e)
  refine ⟨h.bel.grown hg h.bel.size (fun j hj => by have := Option.some.inj hj; have := h.lt; omega), Own.same h.wt fun g e => ?_, h.wlt, fun x hx => ⟨Own.same (h.row x hx).1 fun g e => ?_, (h.row x hx).2⟩, Own.same h.ls fun g e => ?_, h.ysub, h.zsub, h.lt, Nat.lt_of_lt_of_le h.sz hg.size⟩
  · have := h.wt.tag _ e; have h2 := (h.wlt _ e).1; exact hb g this.2.1 (by show g ≠ H; have : g < H := h2; omega)
  · cases e; have := (h.row x hx).2; have h3 := h.sz; exact hb _ (by omega) (by omega)
  · have := h.ls.tag _ e; exact hb g this.2.1 (by have : H + 1 ≤ g := this.1; omega)
theorem GM.push {w1 : World} {H : Nat} {xs ys zs : List Hd} {wa : Option Addr} {wc : Nat} {la la' : Option Addr} {lc lc' : Nat} {w' w2 : World} {o : Obj} (h : GM w1 H xs ys zs wa wc la lc w') {x : Hd} (hx : x ∈ xs)
    (hO : Own 31 1 w2 (H + 1) la' lc' (zs.length + 1) (zs.map RowV ++ [RowV x])) (hB : Below (H + 1) (w'.alloc o) w2) : GM w1 H xs ys (zs ++ [x]) wa wc la' lc' w2 := by
  have hsz := h.sz
  have hb : ∀ b, b < H + 1 → w2.heap[b]? = w'.heap[b]? := fun b hb => by
    rw [hB.block b hb]; exact (b1 w' o).block b (by omega)
  have hlt := h.lt
  refine ⟨(h.bel.alloc h.bel.size o).trans (hB.mono (by omega)), Own.same h.wt fun g e => ?_, h.wlt, fun x hx => ⟨Own.same (h.row x hx).1 fun g e => ?_, (h.row x hx).2⟩, ?_, h.ysub, fun z hz => ?_, h.lt, ?_⟩
  · have h2 := (h.wlt _ e).1; exact hb g (by have : g < H := h2; omega)
  · cases e; have := (h.row x hx).2; exact hb _ (by omega)
  · rw [List.length_append, List.map_append]; exact hO
  · rcases List.mem_append.1 hz with h1 | h1
    · exact h.zsub z h1
    · simp at h1; subst h1; exact hx
  · have h1 := hB.size
    have h2 : (w'.alloc o).heap.size = w'.heap.size + 1 := by simp
    omega
theorem GM.del {w1 : World} {H k g : Nat} {xs ys zs : List Hd} {wc : Nat} {la : Option Addr} {lc : Nat} {w' w2 : World} (h : GM w1 H xs ys zs (some ⟨g, 0, none⟩) wc la lc w') (hk : k < ys.length)
    (hO : Own 31 1 w2 (w1.heap.size + 2) (some ⟨g, 0, none⟩) wc (ys.length - 1) ((ys.map RowV).eraseIdx k)) (hg : w'.grownBy w2 (some g)) : GM w1 H xs (ys.eraseIdx k) zs (some ⟨g, 0, none⟩) wc la lc w2 := by
  have hb : ∀ b, b < w'.heap.size → b ≠ g → w2.heap[b]? = w'.heap[b]? := fun b hb hn => hg.block b hb fun e => hn (Option.some.inj e)
  have hw := h.wlt _ rfl
  have hgH : g < H := hw.1
  have ht := h.wt.tag _ rfl
  have hgl : w1.heap.size + 2 ≤ g := ht.1
  refine ⟨h.bel.grown hg h.bel.size (fun j hj => by have := Option.some.inj hj; omega), ?_, h.wlt, fun x hx => ⟨Own.same (h.row x hx).1 fun b e => ?_, (h.row x hx).2⟩, Own.same h.ls fun b e => ?_, fun x hx => h.ysub x (List.mem_of_mem_eraseIdx hx), h.zsub, h.lt, Nat.lt_of_lt_of_le h.sz hg.size⟩
  · rw [List.length_eraseIdx, if_pos hk, map_erase]; exact hO
  · cases e; have := (h.row x hx).2; have h3 := h.sz; exact hb _ (by omega) (fun e => hw.2 x hx e.symm)
  · have := h.ls.tag _ e; exact hb b this.2.1 (by have : H + 1 ≤ b := this.1; omega)
/-- a waiting ring's header, and its places -/
theorem GM.cell {w1 : World} {H : Nat} {xs ys zs : List Hd} {wa : Option Addr} {wc : Nat} {la : Option Addr} {lc : Nat} {w' : World} (h : GM w1 H xs ys zs wa wc la lc w') {k : Nat} {x : Hd} (hx : ys[k]? = some x) :
    ∃ g, wa = some ⟨g, 0, none⟩ ∧ g < w'.heap.size ∧ g < H ∧ w'.cell? ⟨g, k, none⟩ = some (RowV x) := by
  obtain ⟨g, rfl, h2, h3, h4⟩ := Own.cell h.wt (i := k) (v := RowV x) (by simp [hx])
  exact ⟨g, rfl, h2, (h.wlt _ rfl).1, h4⟩
theorem GM.ring {w1 : World} {H : Nat} {xs ys zs : List Hd} {wa : Option Addr} {wc : Nat} {la : Option Addr} {lc : Nat} {w' : World} (h : GM w1 H xs ys zs wa wc la lc w') {x : Hd} (hx : x ∈ xs) (hl : x.2.2.length ≤ 5864062014805) : Sl RN 1 w' (some ⟨x.1, 0, none⟩) x.2.2 := (h.row x hx).1.sl hl
/-- what is listed reads as lists of places, in new memory -/
theorem GM.out {w1 : World} {H : Nat} {xs ys zs : List Hd} {wa : Option Addr} {wc : Nat} {la : Option Addr} {lc lo : Nat} {w' : World} (h : GM w1 H xs ys zs wa wc la lc w') (hl : ∀ x ∈ zs, x.2.2.length ≤ 5864062014805) (hz : zs.length ≤ 5864062014805) (hlo : lo ≤ w1.heap.size) :
    Iv (RS (RS RN 1) 1) lo w'.heap.size w' [.slice la (zs.map (·.2.2)).length lc] (zs.map (·.2.2)) := by
  have hlt := h.lt
  refine Own.iv (e := 31) (base := H + 1) (cells := zs.map RowV) (by rw [List.length_map]; exact h.ls) ⟨by simp, fun i r hr => ?_⟩ (by omega) (by simpa using hz)
  rw [List.getElem?_map] at hr
  cases hx : zs[i]? with
  | none => rw [hx] at hr; cases hr
  | some x =>
    rw [hx] at hr
    have e := Option.some.inj hr
    subst e
    have hxm := List.mem_of_getElem? hx
    refine ⟨[RowV x], rfl, fun j hj => ?_, OwnN.iv (h.row x (h.zsub x hxm)).1 (by omega) (hl x hxm)⟩
    obtain rfl : j = 0 := by omega
    simp [hx]
end Go.Proofs.YtnmcajinaigcjaaGreatDoor

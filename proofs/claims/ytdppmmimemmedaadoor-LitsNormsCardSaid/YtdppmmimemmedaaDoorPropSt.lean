/- lits.Propagate: the state of its loops. -/
import Derived.Test.YtdppmmimemmedaaDoorPropMath
import Derived.Test.YtdppmmimemmedaaDoorLast
import Derived.Test.YtdppmmimemmedaaDoorSortKeys
namespace Go.Proofs.YtdppmmimemmedaaDoor
open Go.RowKit Go.Shelf

/-- rows of ints in block g that are read; all blocks in K -/
structure Rd (K : Nat → Prop) (w : World) (g : Nat) (cs : List (List Int)) : Prop where
  kg : K g
  lt : g < w.heap.size
  rows : ∀ (i : Nat) (x : List Int), cs[i]? = some x → ∃ a' c', w.cell? ⟨g, i, none⟩ = some (.slice a' x.length c') ∧ Ints w a' x ∧ ∀ ad, eff a' x = some ad → K ad.block
theorem Rd.keep {K : Nat → Prop} {w w' : World} {g : Nat} {cs : List (List Int)} (h : Rd K w g cs) (hs : w.heap.size ≤ w'.heap.size) (hk : ∀ k, K k → k < w.heap.size → w'.heap[k]? = w.heap[k]?) : Rd K w' g cs :=
  ⟨h.kg, Nat.lt_of_lt_of_le h.lt hs, fun i x hx => by
    obtain ⟨a1, c1, e1, e2, e3⟩ := h.rows i x hx
    exact ⟨a1, c1, (World.cell?_of_block (a := ⟨g, i, none⟩) (hk g h.kg h.lt)).trans e1, e2.sameE hs (fun ad e => hk _ (e3 ad e) (e2.effLt ad e)), e3⟩⟩
theorem VC.rd {K K' : Nat → Prop} {w : World} {base g : Nat} {cs : List (List Int)} (h : VC K w base g cs) (hg : K' g) (hk : ∀ k, K k → K' k) : Rd K' w g cs :=
  ⟨hg, h.blk.2.1, fun i x hx => by
    obtain ⟨vals, hr, hv⟩ := h
    obtain ⟨a1, c1, e1, r, e3⟩ := hv i x hx
    have := hr.cells (g := g) rfl i _ e1
    rw [addr_add, Nat.zero_add] at this
    exact ⟨a1, c1, this, r, fun ad e => hk _ (e3 ad e)⟩⟩
theorem IR.rd {K' : Nat → Prop} {w : World} {base n1 g : Nat} {ls : List (List Int)} (h : IR w base n1 g ls) (hg : K' g) (hk : ∀ k, n1 ≤ k → k < w.heap.size → K' k) (hi : ∀ zs ∈ ls, (∀ z ∈ zs, I64 z) ∧ zs.length ≤ 17592186043904) : Rd K' w g ls :=
  ⟨hg, h.blk.2.1, fun p zs hx => by
    obtain ⟨a1, c1, e1, e2⟩ := h.cell hx
    obtain ⟨i1, i2⟩ := hi zs (List.mem_of_getElem? hx)
    have hI := e2.ints i1 i2
    exact ⟨a1, c1, e1, hI, fun ad e => hk _ (e2.tagN.new ad (eff_some e)) (hI.effLt ad e)⟩⟩
theorem PQ.same {w w' : World} {base Bs Bq bm : Nat} {q : List Int} {a : Option Addr} {c : Nat} (h : PQ w base Bs Bq bm q a c) (h1 : w'.heap[Bs]? = w.heap[Bs]?) (h2 : w'.heap[Bq]? = w.heap[Bq]?) (h3 : w'.heap[bm]? = w.heap[bm]?) (h4 : ∀ ad, a = some ad → w'.heap[ad.block]? = w.heap[ad.block]?) : PQ w' base Bs Bq bm q a c :=
  ⟨h1.trans h.bs, h2.trans h.bq, h.own.sameA h4, by obtain ⟨es, cl, hb, r⟩ := h.map; exact ⟨es, cl, h3.trans hb, r⟩, h.lbq, h.lbm, h.nd, h.lit⟩
theorem PQ.lts {w : World} {base Bs Bq bm : Nat} {q : List Int} {a : Option Addr} {c : Nat} (h : PQ w base Bs Bq bm q a c) : Bs < w.heap.size ∧ Bq < w.heap.size ∧ bm < w.heap.size ∧ ∀ ad, a = some ad → ad.block < w.heap.size := ⟨h.bs.lt, h.bq.lt, h.map.lt, h.own.ltA⟩
/-- what the loops of Propagate hold: n0 the heap's size at the call, n1 ahead of occurrences, gi the block of in, L that of left -/
def KP (n0 n1 L : Nat) : Nat → Prop := fun k => k < n0 ∨ (n1 ≤ k ∧ k < L)
structure PSt (w : World) (n1 gi L : Nat) (vs ls : List (List Int)) (wr : World) (q : List Int) (a : Option Addr) (c : Nat) (lv : List Int) : Prop where
  pq : PQ wr w.heap.size (w.heap.size + 1) (w.heap.size + 1 + 1) w.heap.size q a c
  lies : ∀ ad, a = some ad → ad.block < n1 ∨ L < ad.block
  vd : Rd (KP w.heap.size n1 L) wr n1 vs
  ird : Rd (KP w.heap.size n1 L) wr gi ls
  lft : OwnI wr n1 (some ⟨L, 0, none⟩) vs.length lv
  n01 : w.heap.size + 1 + 1 < n1
  n1L : n1 < L
  ltL : L < wr.heap.size
  below : Below w.heap.size w wr
/-- a literal was put -/
theorem PSt.put {w wr w' : World} {n1 gi L : Nat} {vs ls : List (List Int)} {q : List Int} {a a' : Option Addr} {c c' : Nat} {lv : List Int} {x : Int} (h : PSt w n1 gi L vs ls wr q a c lv)
    (hq : PQ w' w.heap.size (w.heap.size + 1) (w.heap.size + 1 + 1) w.heap.size (M.add q x) a' c') (hl : LiesG wr.heap.size a a') (hf : PFr w.heap.size (w.heap.size + 1 + 1) w.heap.size a wr w') : PSt w n1 gi L vs ls w' (M.add q x) a' c' lv := by
  have h1 := h.n01
  have h2 := h.n1L
  have h3 := h.ltL
  have hs := hf.size
  have hsame : ∀ k, k < w.heap.size ∨ (n1 ≤ k ∧ k ≤ L) → w'.heap[k]? = wr.heap[k]? := fun k hk => by
    have hk' := h.below.size
    rcases hk with hk | hk
    · exact hf.below.block k hk
    · exact hf.same k (by omega) (by omega) (by omega) (fun ad e he => by have := h.lies ad e; omega)
  refine ⟨hq, fun ad e => ?_, h.vd.keep hs (fun k hk _ => hsame k (hk.imp (fun h => h) (fun h => ⟨h.1, by omega⟩))), h.ird.keep hs (fun k hk _ => hsame k (hk.imp (fun h => h) (fun h => ⟨h.1, by omega⟩))), h.lft.sameA (fun ad e => by cases e; exact hsame L (.inr ⟨by omega, Nat.le_refl _⟩)), h1, h2, by omega, h.below.trans hf.below⟩
  rcases hl ad e with ⟨ad0, e0, e1⟩ | h4
  · rw [← e1]; exact h.lies ad0 e0
  · exact .inr (by omega)
/-- a number of left was set -/
theorem PSt.left {w wr : World} {n1 gi L : Nat} {vs ls : List (List Int)} {q : List Int} {a : Option Addr} {c : Nat} {lv : List Int} (h : PSt w n1 gi L vs ls wr q a c lv) (i : Nat) (u : Int) : PSt w n1 gi L vs ls (wr.setCell ⟨L, i, none⟩ (.int .i64 u)) q a c (lv.set i u) := by
  have h1 := h.n01
  have h2 := h.n1L
  have h3 := h.ltL
  have hb := h.below.size
  have hs : (wr.setCell ⟨L, i, none⟩ (.int .i64 u)).heap.size = wr.heap.size := by simp [World.setCell]
  have hsame : ∀ k, k ≠ L → (wr.setCell ⟨L, i, none⟩ (.int .i64 u)).heap[k]? = wr.heap[k]? := fun k hk => Below.heap_setCell _ _ _ _ hk
  have hkp : ∀ k, KP w.heap.size n1 L k → k ≠ L := fun k hk => by rcases hk with hk | hk <;> omega
  exact ⟨h.pq.same (hsame _ (by omega)) (hsame _ (by omega)) (hsame _ (by omega)) (fun ad e => hsame _ (by have := h.lies ad e; omega)), h.lies, h.vd.keep (by omega) (fun k hk _ => hsame k (hkp k hk)), h.ird.keep (by omega) (fun k hk _ => hsame k (hkp k hk)),
    h.lft.stored i u, h1, h2, by omega, h.below.setCell (p := ⟨L, i, none⟩) (by show w.heap.size ≤ L; omega) _⟩
/-- at the start -/
theorem PSt.start {w wo w2 w3 : World} {cs : List (List Int)} {gi V : Nat} {ls : List (List Int)} {q : List Int} {a : Option Addr} {c : Nat} (hP : PQ wo w.heap.size (w.heap.size + 1) (w.heap.size + 1 + 1) w.heap.size q a c) (hB : Below w.heap.size w wo)
    (hv : VC (InK w.heap.size wo.heap.size gi) w2 wo.heap.size wo.heap.size (cs.map M.only)) (hi : IR w2 wo.heap.size (gi + 1) gi ls) (hgi : wo.heap.size < gi) (hl : ls.length = 2 * V) (hls : ∀ p, p < 2 * V → ls[p]? = some (M.occ (cs.map M.only) cs.length 0 p)) (hcl : cs.length ≤ 1000000) (hb2 : Below wo.heap.size wo w2)
    (ho : OwnI w3 w2.heap.size (some ⟨w2.heap.size, 0, none⟩) cs.length (List.replicate cs.length 0)) (hb3 : Below w2.heap.size w2 w3) (hlt : w2.heap.size < w3.heap.size) :
    PSt w wo.heap.size gi w2.heap.size (cs.map M.only) ls w3 q a c (List.replicate cs.length 0) := by
  obtain ⟨e1, e2, e3, e4⟩ := hP.lts
  have s2 := hb2.size
  have g2 := hi.blk.2.1
  have hsz := hB.size
  have keep : ∀ k, k < wo.heap.size → w3.heap[k]? = wo.heap[k]? := fun k hk => (hb3.block k (by omega)).trans (hb2.block k hk)
  have rv := hv.rd (K' := KP w.heap.size wo.heap.size w2.heap.size) (.inr ⟨Nat.le_refl _, by omega⟩) (fun k hk => hk.imp (fun h => h) (fun h => ⟨h.1, by omega⟩))
  have ri := hi.rd (K' := KP w.heap.size wo.heap.size w2.heap.size) (.inr ⟨by omega, g2⟩) (fun k h1 h2 => .inr ⟨by omega, h2⟩) (fun zs hzs => by
    obtain ⟨p, hp, e⟩ := List.getElem_of_mem hzs
    have := hls p (by omega)
    rw [List.getElem?_eq_getElem hp, e] at this
    injection this with this
    rw [this]
    refine ⟨fun z hz => ?_, by have := M.occ_length (cs.map M.only) cs.length 0 p; omega⟩
    have : ∃ k : Nat, z = (k : Int) ∧ k ≤ cs.length := by
      unfold M.occ at hz
      rcases List.mem_append.1 hz with h | h
      · obtain ⟨i, hi, rfl⟩ := List.mem_map.1 h
        have := List.mem_range.1 (List.mem_filter.1 hi).1
        exact ⟨i, rfl, by omega⟩
      · cases hh : M.hasP (List.take 0 ((cs.map M.only)[cs.length]?.getD [])) p
        · rw [hh] at h; simp at h
        · rw [hh] at h; simp at h; exact ⟨cs.length, h, Nat.le_refl _⟩
    obtain ⟨k, rfl, hk⟩ := this
    exact ⟨by omega, by omega⟩)
  have hkk : ∀ k, KP w.heap.size wo.heap.size w2.heap.size k → k < w2.heap.size → w3.heap[k]? = w2.heap[k]? := fun k _ hk => hb3.block k hk
  refine ⟨hP.same (keep _ e1) (keep _ e2) (keep _ e3) (fun ad e => keep _ (e4 ad e)), fun ad e => .inl (e4 ad e), rv.keep hb3.size hkk, ri.keep hb3.size hkk, ?_, e2, by omega, hlt, hB.trans ((hb2.mono hsz).trans (hb3.mono (by omega)))⟩
  rw [List.length_map]
  exact ⟨ho.1, by
    rcases ho.2 with h0 | ⟨g, cap, cur, e, hb, r⟩
    · exact .inl h0
    · exact .inr ⟨g, cap, cur, e, by omega, r⟩⟩
end Go.Proofs.YtdppmmimemmedaaDoor

/- lits.occurrences: the walk. -/
import Derived.Test.YtdppmmimemmedaaDoorOcc
namespace Go.Proofs.YtdppmmimemmedaaDoor
open Go.RowKit Go.Shelf

namespace M
theorem varsC_mono (g : Int) (c : List Int) : g ≤ varsC g c := by
  unfold varsC
  induction c generalizing g with
  | nil => exact Int.le_refl _
  | cons x l ih =>
    rw [List.foldl_cons]
    refine Int.le_trans ?_ (ih _)
    split
    · exact Int.le_max_left _ _
    · exact Int.le_refl _
theorem varsC_mem {g : Int} {c : List Int} {x : Int} (hx : x ∈ c) (hl : isLit x = true) : vr x ≤ varsC g c := by
  unfold varsC
  induction c generalizing g with
  | nil => simp at hx
  | cons y l ih =>
    rw [List.foldl_cons]
    rcases List.mem_cons.1 hx with rfl | h
    · rw [if_pos hl]
      exact Int.le_trans (Int.le_max_right _ _) (varsC_mono _ l)
    · exact ih h
theorem vars_mem {cs : List (List Int)} {c : List Int} (hc : c ∈ cs) {x : Int} (hx : x ∈ c) (hl : isLit x = true) : vr x ≤ vars cs := by
  have h : ∀ (cs : List (List Int)) (g : Int), c ∈ cs → vr x ≤ cs.foldl varsC g := by
    intro cs
    induction cs with
    | nil => intro g h; simp at h
    | cons d l ih =>
      intro g h
      rw [List.foldl_cons]
      rcases List.mem_cons.1 h with rfl | h
      · have mono : ∀ (l : List (List Int)) (g : Int), g ≤ l.foldl varsC g := by
          intro l
          induction l with
          | nil => intro g; exact Int.le_refl _
          | cons d l ih => intro g; rw [List.foldl_cons]; exact Int.le_trans (varsC_mono g d) (ih _)
        exact Int.le_trans (varsC_mem hx hl) (mono _ _)
      · exact ih _ h
  exact h cs 0 hc
theorem place_nonneg {l : Int} (h : isLit l = true) : 0 ≤ place l := by
  have := (isLit_iff l).1 h; unfold place; split <;> omega
theorem place_lt {l : Int} (h : isLit l = true) : place l < 2 * vr l := by
  have := (isLit_iff l).1 h; unfold place vr; split <;> omega
theorem place_inj {l k : Int} (h : isLit l = true) (h' : isLit k = true) (e : place l = place k) : l = k := by
  have := (isLit_iff l).1 h; have := (isLit_iff k).1 h'; unfold place at e; split at e <;> split at e <;> omega
/-- which of the first k clauses, and k by its first j literals, have the literal of place p -/
def hasP (c : List Int) (p : Nat) : Bool := c.any fun l => place l == (p : Int)
def occ (cs : List (List Int)) (k j p : Nat) : List Int :=
  ((List.range k).filter fun i => hasP (cs[i]?.getD []) p).map (fun i : Nat => (i : Int)) ++ cond (hasP ((cs[k]?.getD []).take j) p) [(k : Int)] []
theorem occ_next {cs : List (List Int)} {k : Nat} {c : List Int} (h : cs[k]? = some c) (p : Nat) : occ cs k c.length p = occ cs (k + 1) 0 p := by
  unfold occ
  rw [List.range_succ, List.filter_append, List.map_append, h]
  simp only [Option.getD_some, List.take_length, List.take_zero]
  have e0 : hasP [] p = false := rfl
  have e1 : List.filter (fun i => hasP (cs[i]?.getD []) p) [k] = cond (hasP c p) [k] [] := by
    simp only [List.filter_cons, List.filter_nil, h, Option.getD_some]
    cases hasP c p <;> rfl
  rw [e1, e0]
  cases hasP c p <;> simp
theorem hasP_snoc {c : List Int} {j : Nat} {z : Int} (h : c[j]? = some z) (p : Nat) : hasP (c.take (j + 1)) p = (hasP (c.take j) p || (place z == (p : Int))) := by
  unfold hasP; rw [List.take_add_one, h, List.any_append]; simp
theorem occ_other {cs : List (List Int)} {k j p : Nat} {c : List Int} {z : Int} (hc : cs[k]? = some c) (h : c[j]? = some z) (hp : place z ≠ (p : Int)) : occ cs k (j + 1) p = occ cs k j p := by
  unfold occ; rw [hc]; simp only [Option.getD_some]
  rw [hasP_snoc h, show (place z == (p : Int)) = false by simpa using hp, Bool.or_false]
theorem occ_this {cs : List (List Int)} {k j p : Nat} {c : List Int} {z : Int} (hc : cs[k]? = some c) (h : c[j]? = some z) (hp : place z = (p : Int)) (hn : hasP (c.take j) p = false) : occ cs k (j + 1) p = occ cs k j p ++ [(k : Int)] := by
  unfold occ; rw [hc]; simp only [Option.getD_some]
  rw [hasP_snoc h, show (place z == (p : Int)) = true by simpa using hp, Bool.or_true, hn]; simp
theorem hasP_new {c : List Int} {j : Nat} {z : Int} (hs : Sorted c) (hl : ∀ x ∈ c, isLit x = true) (h : c[j]? = some z) {p : Nat} (hp : place z = (p : Int)) : hasP (c.take j) p = false := by
  unfold hasP
  rw [List.any_eq_false]
  intro x hx
  have hx' : x ∈ c := List.mem_of_mem_take hx
  have hz : z ∈ c := List.mem_of_getElem? h
  intro e
  have e' : place x = place z := by rw [hp]; simpa using e
  have := place_inj (hl x hx') (hl z hz) e'
  subst this
  obtain ⟨i, hi, hix⟩ := List.getElem_of_mem hx
  have hi' : i < j := by simp at hi; omega
  have hjl : j < c.length := (List.getElem?_eq_some_iff.1 h).1
  have hxj : c[j] = x := (List.getElem?_eq_some_iff.1 h).2
  have hxi : c[i] = x := by rw [← hix]; simp
  have := List.pairwise_iff_getElem.1 hs i j (by omega) hjl hi'
  rw [hxi, hxj, less_irrefl] at this
  cases this
theorem occ_length (cs : List (List Int)) (k j p : Nat) : (occ cs k j p).length ≤ k + 1 := by
  unfold occ
  have := List.length_filter_le (fun i => hasP (cs[i]?.getD []) p) (List.range k)
  simp only [List.length_append, List.length_map]
  simp at this
  cases hasP ((cs[k]?.getD []).take j) p <;> simp <;> omega
end M
/-- clauses that are read, all below block b0 -/
structure ClsB (b0 : Nat) (w : World) (a : Option Addr) (cs : List (List Int)) : Prop where
  addr : 0 < cs.length → ∃ b off, a = some ⟨b, off, none⟩ ∧ b < b0 ∧ ∀ i c, cs[i]? = some c → ∃ a' c', w.cell? ⟨b, off + i, none⟩ = some (.slice a' c.length c') ∧ Ints w a' c ∧ ∀ ad, eff a' c = some ad → ad.block < b0
  len : cs.length ≤ 1000000
  le : b0 ≤ w.heap.size
theorem ClsB.cls {b0 : Nat} {w : World} {a : Option Addr} {cs : List (List Int)} (h : ClsB b0 w a cs) : Cls w a cs :=
  ⟨fun h0 => by
    obtain ⟨b, off, e, hb, hc⟩ := h.addr h0
    exact ⟨b, off, e, Nat.lt_of_lt_of_le hb h.le, fun i c hi => by obtain ⟨a', c', h1, h2, _⟩ := hc i c hi; exact ⟨a', c', h1, h2⟩⟩, by have := h.len; omega⟩
theorem ClsB.below {b0 : Nat} {w w' : World} {a : Option Addr} {cs : List (List Int)} (h : ClsB b0 w a cs) (hb : Below b0 w w') : ClsB b0 w' a cs :=
  ⟨fun h0 => by
    obtain ⟨b, off, e, hlt, hc⟩ := h.addr h0
    refine ⟨b, off, e, hlt, fun i c hi => ?_⟩
    obtain ⟨a', c', h1, h2, h3⟩ := hc i c hi
    exact ⟨a', c', (hb.cell (p := ⟨b, off + i, none⟩) hlt).trans h1, h2.sameE hb.size (fun ad e => hb.block _ (h3 ad e)), h3⟩, h.len, Nat.le_trans h.le hb.size⟩
theorem eff_len {b : Option Addr} {zs : List Int} {ad : Addr} (h : eff b zs = some ad) : 0 < zs.length := by
  rcases Nat.eq_zero_or_pos zs.length with h' | h'
  · rw [List.eq_nil_of_length_eq_zero h', eff_nil] at h; cases h
  · exact h'
theorem Ints.effLt {w : World} {b : Option Addr} {zs : List Int} (hz : Ints w b zs) : ∀ ad, eff b zs = some ad → ad.block < w.heap.size := fun ad e => by
  obtain ⟨b', off, rfl, hlt, _⟩ := hz.addr (eff_len e)
  have := eff_some e; cases this; exact hlt
theorem Cls.toB {w : World} {a : Option Addr} {cs : List (List Int)} (h : Cls w a cs) (hl : cs.length ≤ 1000000) : ClsB w.heap.size w a cs :=
  ⟨fun h0 => by
    obtain ⟨b, off, e, hlt, hc⟩ := h.addr h0
    refine ⟨b, off, e, hlt, fun i c hi => ?_⟩
    obtain ⟨a', c', h1, h2⟩ := hc i c hi
    exact ⟨a', c', h1, h2, h2.effLt⟩, hl, Nat.le_refl _⟩
def InK (b0 n0 n1 : Nat) : Nat → Prop := fun k => k < b0 ∨ (n0 ≤ k ∧ k < n1)
theorem InK.lt {b0 n0 n1 k : Nat} (h : InK b0 n0 n1 k) (h0 : b0 ≤ n0) (h1 : n0 ≤ n1) : k < n1 := by rcases h with h | h <;> omega
/-- what occurrences answers -/
def OccPost (b0 : Nat) (w : World) (cs : List (List Int)) (e : Ending) (w' : World) : Prop :=
  ∃ (V gi : Nat) (ls : List (List Int)), M.vars cs = (V : Int) ∧ e = .returned (.tuple #[.slice (some ⟨w.heap.size, 0, none⟩) cs.length cs.length, .slice (some ⟨gi, 0, none⟩) (2 * V) (2 * V)]) ∧
    VC (InK b0 w.heap.size gi) w' w.heap.size w.heap.size (cs.map M.only) ∧ IR w' w.heap.size (gi + 1) gi ls ∧ w.heap.size < gi ∧ ls.length = 2 * V ∧ (∀ p, p < 2 * V → ls[p]? = some (M.occ (cs.map M.only) cs.length 0 p)) ∧ Below w.heap.size w w'
theorem clTo_only {cs : List (List Int)} {k : Nat} {x : List Int} (h : cs[k]? = some x) : (M.clTo (cs.map M.only) k).set k (M.only x) = M.clTo (cs.map M.only) (k + 1) := M.clTo_set (by rw [List.getElem?_map, h]; rfl)
theorem clTo_length (cs : List (List Int)) {k : Nat} (h : k ≤ cs.length) : (M.clTo cs k).length = cs.length := by simp [M.clTo]; omega
theorem clTo_at (cs : List (List Int)) {k : Nat} (h : k < cs.length) : (M.clTo cs k)[k]? = some [] := by
  unfold M.clTo
  rw [List.getElem?_append_right (by simp; omega), List.length_take, Nat.min_eq_left (by omega), Nat.sub_self, List.getElem?_replicate, if_pos (by omega)]
/-- one clause more -/
theorem occ_step {b0 : Nat} {w wr w2 : World} {cs : List (List Int)} {k : Nat} {x : List Int} {a1 a2 : Option Addr} {c2 : Nat} (hx : cs[k]? = some x) (hv : VC (InK b0 w.heap.size wr.heap.size) w2 w.heap.size w.heap.size (M.clTo (cs.map M.only) k)) (hs : w.heap.size ≤ wr.heap.size) (hs2 : wr.heap.size ≤ w2.heap.size)
    (hI : Ints w2 a2 (M.only x)) (hk : ∀ ad, eff a1 x = some ad → ad.block < b0) (ha : (a2 = a1 ∧ M.only x = x) ∨ ∀ ad, a2 = some ad → wr.heap.size ≤ ad.block) :
    VC (InK b0 w.heap.size (w2.setCell ⟨w.heap.size, k, none⟩ (.slice a2 (M.only x).length c2)).heap.size) (w2.setCell ⟨w.heap.size, k, none⟩ (.slice a2 (M.only x).length c2)) w.heap.size w.heap.size (M.clTo (cs.map M.only) (k + 1)) := by
  have e : (w2.setCell ⟨w.heap.size, k, none⟩ (.slice a2 (M.only x).length c2)).heap.size = w2.heap.size := by simp [World.setCell]
  rw [e, ← clTo_only hx]
  refine (hv.weak (K' := InK b0 w.heap.size w2.heap.size) (fun j hj => ?_)).set k hI (fun ad had => ?_)
  · rcases hj with h | h
    · exact .inl h
    · exact .inr ⟨h.1, by omega⟩
  · rcases ha with ⟨rfl, h⟩ | h
    · rw [h] at had; exact .inl (hk ad had)
    · exact .inr ⟨by have := h ad (eff_some had); omega, hI.effLt ad had⟩
theorem VC.ints {K : Nat → Prop} {w : World} {base g c : Nat} {cs : List (List Int)} (h : VC K w base g cs) {i : Nat} {x : List Int} {a : Option Addr} (hx : cs[i]? = some x) (hc : w.cell? ⟨g, i, none⟩ = some (.slice a x.length c)) : Ints w a x := by
  obtain ⟨a', c', h1, h2⟩ := h.cell hx
  rw [hc] at h1
  injection h1 with h1
  injection h1 with e1
  rw [e1]; exact h2
theorem IR.midB {w w2 : World} {base n1 g c : Nat} {ls : List (List Int)} {zs : List Int} {a : Option Addr} {o : Obj} (h : IR w base n1 g ls) (ho : OwnI w n1 a c zs) (hg2 : (w.alloc o).grownBy w2 (Value.slice a zs.length c).ownBlock) : w2.heap[g]? = w.heap[g]? := by
  obtain ⟨_, hgl, hg1, _⟩ := h.blk
  refine (hg2.block g (by simp; omega) (fun e => ?_)).trans (Below.heap_alloc _ _ g hgl)
  have := ownBlock_ge ho g _ e.symm
  omega
theorem IR.mid {w w2 : World} {base n1 g c p : Nat} {ls : List (List Int)} {zs : List Int} {a : Option Addr} {o : Obj} {v : Value} (h : IR w base n1 g ls) (hc : w.cell? ⟨g, p, none⟩ = some v) (ho : OwnI w n1 a c zs) (hg2 : (w.alloc o).grownBy w2 (Value.slice a zs.length c).ownBlock) : w2.cell? ⟨g, p, none⟩ = some v :=
  (World.cell?_of_block (a := ⟨g, p, none⟩) (h.midB ho hg2)).trans hc
theorem IR.midF {w w2 : World} {base n1 g c : Nat} {ls : List (List Int)} {zs : List Int} {a : Option Addr} {o : Obj} (h : IR w base n1 g ls) (ho : OwnI w n1 a c zs) (hg2 : (w.alloc o).grownBy w2 (Value.slice a zs.length c).ownBlock) (p : Nat) : w2.frozen? ⟨g, p, none⟩ = false :=
  (World.frozen?_of_block (a := ⟨g, p, none⟩) (h.midB ho hg2)).trans (h.frozen p)
set_option maxRecDepth 100000 in
set_option maxHeartbeats 4000000 in
theorem occ_any (b0 : Nat) (a : Option Addr) (c : Nat) (cs : List (List Int)) (w : World) (hz : ClsB b0 w a cs) :
    Calls Tryd.prog 65 #[.slice a cs.length c] w (OccPost b0 w cs) := by
  have hlen := hz.len
  have hb0 := hz.le
  have HZ := Lib.hid hz
  have HB0 := Lib.hid hb0
  clear hz hb0
  go_enter Tryd.func65, Tryd.ntmps65
  go_wp2_with (at_make; refine wpList_make_VC (K := InK b0 w.heap.size w.heap.size) rfl (.tmp 13) (.tmp 13) rfl w.heap.size cs.length rfl rfl hlen (Nat.le_refl _) ?_; intro w1 hvc hb1; have HV := Lib.hid hvc; have HB1 := Lib.hid hb1; clear hvc hb1)
  go_loopw [17] (fun i wr => ∃ k : Nat, k ≤ cs.length ∧ i = .int .i64 k ∧ VC (InK b0 w.heap.size wr.heap.size) wr w.heap.size w.heap.size (M.clTo (cs.map M.only) k) ∧ Below w.heap.size w wr) (fun i _ => cs.length - (intOf i).toNat)
  case atStart =>
    refine ⟨0, Nat.zero_le _, rfl, ?_, HB1.out⟩
    have := HV.out.weak (K' := InK b0 w.heap.size w1.heap.size) (fun k hk => by rcases hk with h | h; exact .inl h; exact .inr ⟨h.1, by have := HB1.out.size; omega⟩)
    simpa [M.clTo] using this
  case round =>
    obtain ⟨k, hk, rfl, hvc, hbl⟩ := hrel
    have HV2 := Lib.hid hvc
    have HBL := Lib.hid hbl
    clear hvc hbl
    by_cases hlt : k < cs.length
    · obtain ⟨bb, off, rfl, hbb, hcl⟩ := (HZ.out.below (HBL.out.mono HB0.out)).addr (by omega)
      obtain ⟨x, hxk⟩ : ∃ x, cs[k]? = some x := ⟨cs[k], by simp [hlt]⟩
      obtain ⟨a1, c1, hc1, hI1, hK1⟩ := hcl k x hxk
      have ho := only_rd a1 c1 x wr hI1
      have HO := Lib.hid ho
      have HI := Lib.hid hI1
      have HK := Lib.hid hK1
      have HX := Lib.hid hxk
      clear ho hcl hI1 hK1 hxk
      go_wp2_with (go_at_call 81; refine HO.out.mono ?_; rintro e w2 ⟨a2, c2, rfl, h1, h2, h3⟩
                   have HV3 := Lib.hid (HV2.out.keep h2.size (h2.block _ HV2.out.blk.2.1) (fun k hk => h2.block k (InK.lt hk HB0.out HBL.out.size)))
                   obtain ⟨a4, c4, hc4, _⟩ := HV3.out.cell (clTo_at (cs.map M.only) (k := k) (by simpa using hlt))
                   have hf4 := HV3.out.frozen k
                   have H1 := Lib.hid h1
                   have H2 := Lib.hid h2
                   have H3 := Lib.hid h3
                   clear h1 h2 h3)
      go_roundw
      case rel =>
        refine ⟨k + 1, by omega, by go_num, occ_step (a1 := a1) HX.out HV3.out HBL.out.size H2.out.size H1.out HK.out H3.out, ?_⟩
        exact (HBL.out.trans (H2.out.mono HBL.out.size)).setCell (p := ⟨w.heap.size, k, none⟩) (Nat.le_refl _) _
      case measure => simp [intOf]; omega
    · obtain rfl : k = cs.length := by omega
      have hfull : M.clTo (cs.map M.only) cs.length = cs.map M.only := by simp [M.clTo, List.take_of_length_le]
      have HV3 : Hid (VC (InK b0 w.heap.size wr.heap.size) wr w.heap.size w.heap.size (cs.map M.only)) := Lib.hid (by have := HV2.out; rwa [hfull] at this)
      have hvars := lvars_any a c cs wr ((HZ.out.below (HBL.out.mono HB0.out)).cls)
      obtain ⟨hv0, hv1⟩ := M.vars_bd cs
      obtain ⟨V, hV⟩ : ∃ V : Nat, M.vars cs = (V : Int) := ⟨(M.vars cs).toNat, by omega⟩
      have HVV := Lib.hid hV
      rw [hV] at hvars hv0 hv1
      have HVA := Lib.hid hvars
      clear hvars hV hfull HV2
      go_wp2_with (first
        | (go_at_call 40; refine HVA.out.mono ?_; rintro e w2 ⟨rfl, rfl⟩)
        | (at_make; refine wpList_make_IR rfl (.tmp 30) (.tmp 30) rfl w.heap.size (2 * V) rfl rfl (by omega) HBL.out.size ?_; intro w3 hir hb3; have HI := Lib.hid hir; have HB3 := Lib.hid hb3; clear hir hb3)
        | go_in)
      obtain ⟨wo, hwo⟩ : ∃ wo, wo = wr := ⟨_, rfl⟩
      subst hwo
      have hgi : w.heap.size < wo.heap.size := HV3.out.blk.2.1
      have HV4 : Hid (VC (InK b0 w.heap.size wo.heap.size) w3 w.heap.size w.heap.size (cs.map M.only)) := Lib.hid (HV3.out.keep HB3.out.size (HB3.out.block _ hgi) (fun k hk => HB3.out.block k (InK.lt hk HB0.out HBL.out.size)))
      have HB4 : Hid (Below w.heap.size w w3) := Lib.hid (HBL.out.trans (HB3.out.mono HBL.out.size))
      go_loopw [34] (fun i wq => ∃ (k : Nat) (ls : List (List Int)), k ≤ cs.length ∧ i = .int .i64 k ∧ VC (InK b0 w.heap.size wo.heap.size) wq w.heap.size w.heap.size (cs.map M.only) ∧ IR wq w.heap.size (wo.heap.size + 1) wo.heap.size ls ∧ ls.length = 2 * V ∧ (∀ p, p < 2 * V → ls[p]? = some (M.occ (cs.map M.only) k 0 p)) ∧ Below w.heap.size w wq ∧ wo.heap.size < wq.heap.size) (fun i _ => cs.length - (intOf i).toNat)
      case atStart =>
        exact ⟨0, _, Nat.zero_le _, rfl, HV4.out, HI.out, by simp, fun p hp => by rw [List.getElem?_replicate, if_pos hp]; simp [M.occ, M.hasP], HB4.out, by have := HI.out.blk; omega⟩
      case round =>
        obtain ⟨k, ls, hk, rfl, hvc, hir, hll, hls, hbq, hgq⟩ := hrel
        have HVC := Lib.hid hvc
        have HIR := Lib.hid hir
        have HLS := Lib.hid hls
        have HBQ := Lib.hid hbq
        have HLL := Lib.hid hll
        clear hvc hir hls hbq hll
        by_cases hlt2 : k < cs.length
        · obtain ⟨x, hxk⟩ : ∃ x, cs[k]? = some x := ⟨cs[k], by simp [hlt2]⟩
          have hok : (cs.map M.only)[k]? = some (M.only x) := by rw [List.getElem?_map, hxk]; rfl
          obtain ⟨a1, c1, hc1, hI1⟩ := HVC.out.cell hok
          have HOK := Lib.hid hok
          have HXK := Lib.hid hxk
          have hxl := hI1.len
          clear hok hxk hI1
          obtain ⟨wq, hwq⟩ : ∃ wq, wq = wr := ⟨_, rfl⟩
          subst hwq
          go_wp2
          go_loopw [41] (fun i wr => ∃ (j : Nat) (ls : List (List Int)), j ≤ (M.only x).length ∧ i = .int .i64 j ∧ VC (InK b0 w.heap.size wo.heap.size) wr w.heap.size w.heap.size (cs.map M.only) ∧ IR wr w.heap.size (wo.heap.size + 1) wo.heap.size ls ∧ ls.length = 2 * V ∧ (∀ p, p < 2 * V → ls[p]? = some (M.occ (cs.map M.only) k j p)) ∧ Below w.heap.size w wr ∧ wo.heap.size < wr.heap.size ∧ wr.cell? ⟨w.heap.size, k, none⟩ = some (.slice a1 (M.only x).length c1)) (fun i _ => (M.only x).length - (intOf i).toNat)
          case atStart => exact ⟨0, ls, Nat.zero_le _, rfl, HVC.out, HIR.out, HLL.out, HLS.out, HBQ.out, hgq, hc1⟩
          case round =>
            clear HVC HIR HLL HLS HBQ hgq hc1
            obtain ⟨j, ls, hj, rfl, hvc, hir, hll, hls, hbq, hgq, hc1⟩ := hrel
            have HVC := Lib.hid hvc
            have HIR := Lib.hid hir
            have HLS := Lib.hid hls
            have HBQ := Lib.hid hbq
            have HLL := Lib.hid hll
            have HC1 := Lib.hid hc1
            clear hvc hir hls hbq hll hc1
            by_cases hlt3 : j < (M.only x).length
            · have hI := HVC.out.ints HOK.out HC1.out
              obtain ⟨bb, off, rfl, hbl, hcl⟩ := hI.addr (by omega)
              obtain ⟨z, hzj⟩ : ∃ z, (M.only x)[j]? = some z := ⟨(M.only x)[j], by simp [hlt3]⟩
              have hck := hcl j z hzj
              have hzm : z ∈ M.only x := List.mem_of_getElem? hzj
              have hzl : M.isLit z = true := ((M.mem_only x z).1 hzm).2
              have hpv : M.place z < 2 * (V : Int) := by
                have h1 := M.place_lt hzl
                have h2 := M.vars_mem (List.mem_of_getElem? HXK.out) ((M.mem_only x z).1 hzm).1 hzl
                have h3 := HVV.out
                omega
              obtain ⟨p, hp⟩ : ∃ p : Nat, M.place z = (p : Int) := ⟨(M.place z).toNat, by have := M.place_nonneg hzl; omega⟩
              have hp2 : p < 2 * V := by omega
              have hpl : Calls Tryd.prog 66 #[.int .i64 z] wr fun e w' => e = .returned (.int .i64 (M.place z)) ∧ wr = w' := (place_any z wr hzl).mono fun e w' h => ⟨h.1, h.2.symm⟩
              rw [hp] at hpl
              have HPL := Lib.hid hpl
              have HP := Lib.hid hp
              have HZL := Lib.hid hzl
              have HZJ := Lib.hid hzj
              obtain ⟨a4, c4, hc4, ho4⟩ := HIR.out.cell (HLS.out p hp2)
              have hol := M.occ_length (cs.map M.only) k j p
              have HO4 := Lib.hid ho4
              have HC4 := Lib.hid hc4
              clear hI hcl hzj hzm hzl hpv hpl hp ho4
              go_wp2_with (first
                | (go_at_call 66; refine HPL.out.mono ?_; rintro e w2 ⟨rfl, rfl⟩)
                | (at_builtin; refine wpList_append_IntsAt rfl _ _ 27 rfl Tryd.underlying27 (wo.heap.size + 1) a4 _ c4 _ rfl rfl (HO4.out.alloc _) (some ⟨wr.heap.size, 0, none⟩) 1 1 [(k : Int)] rfl rfl (Ints.one wr k ⟨by omega, by omega⟩ _) (fun e => by cases e) (by omega) (by simp; omega) ?_; intro a5 c5 w5 hown5 hgr5 hlies5
                   have hc5 := HIR.out.mid HC4.out HO4.out hgr5
                   have hf5 := HIR.out.midF HO4.out hgr5 p)
                | go_in)
              go_roundw
              case rel =>
                obtain ⟨r1, r2, r3, r4⟩ := HIR.out.push (HLS.out p hp2) HC4.out (by omega) hgr5 hown5 hlies5
                refine ⟨j + 1, ls.set p (M.occ (cs.map M.only) k j p ++ [(k : Int)]), by omega, by go_num, ?_, r1, by simp [HLL.out], fun p' hp' => ?_, HBQ.out.trans r2, ?_, ?_⟩
                · exact HVC.out.keep r2.size (r4 _ (by omega) (by omega)) (fun k hk => by have := InK.lt hk HB0.out (by omega); exact r4 k (by omega) (by omega))
                · by_cases he : p' = p
                  · subst he
                    rw [List.getElem?_set_self (by rw [HLL.out]; exact hp'), M.occ_this HOK.out HZJ.out HP.out (M.hasP_new (M.sorted_only x) (fun y hy => ((M.mem_only x y).1 hy).2) HZJ.out HP.out)]
                  · rw [List.getElem?_set_ne (fun e => he e.symm), M.occ_other HOK.out HZJ.out (by rw [HP.out]; omega)]
                    exact HLS.out p' hp'
                · have := r2.size; omega
                · exact (World.cell?_of_block (a := ⟨w.heap.size, k, none⟩) (r4 w.heap.size (by omega) (by omega))).trans HC1.out
              case measure => simp [intOf]; omega
            · obtain rfl : j = (M.only x).length := by omega
              go_wp2
              go_roundw
              case rel =>
                exact ⟨k + 1, ls, by omega, by go_num, HVC.out, HIR.out, HLL.out, fun p hp => by rw [← M.occ_next HOK.out]; exact HLS.out p hp, HBQ.out, hgq⟩
              case measure => simp [intOf]; omega
        · obtain rfl : k = cs.length := by omega
          go_wp2
          go_ret2
          exact ⟨V, wo.heap.size, ls, HVV.out, rfl, HVC.out, HIR.out, hgi, HLL.out, HLS.out, HBQ.out⟩
end Go.Proofs.YtdppmmimemmedaaDoor

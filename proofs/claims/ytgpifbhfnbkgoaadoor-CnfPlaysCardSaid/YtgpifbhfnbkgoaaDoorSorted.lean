/- lits.sorted: slices.Clone, slices.SortFunc by lits.order, slices.Compact. -/
import Derived.Test.YtgpifbhfnbkgoaaDoorLits
import Derived.Test.YtgpifbhfnbkgoaaDoorOwn
import Derived.Test.YtgpifbhfnbkgoaaDoorShelf
import Derived.Lib.OwnBridge
import Derived.Sort.OwnSortedInts
namespace Go.Proofs.YtgpifbhfnbkgoaaDoor
open Go.RowKit Go.Sort Go.Shelf

theorem M.sorted_compactUpTo (d : Array Int) (hs : ∀ i j, i < j → j < d.size → M.less d[j]! d[i]! = false) : ∀ m, m ≤ d.size →
    M.Sorted (Lib.compactUpTo d m) ∧ (∀ y, y ∈ Lib.compactUpTo d m ↔ ∃ j, j < m ∧ d[j]! = y) ∧ (∀ y ∈ Lib.compactUpTo d m, 0 < m → y = d[m - 1]! ∨ M.less y d[m - 1]! = true)
  | 0, _ => ⟨List.Pairwise.nil, fun y => by simp [Lib.compactUpTo], fun y hy => by simp [Lib.compactUpTo] at hy⟩
  | m + 1, hm => by
    obtain ⟨h1, h2, h3⟩ := M.sorted_compactUpTo d hs m (by omega)
    rw [Lib.compactUpTo_succ]
    by_cases hk : Lib.keeps d m = true
    · rw [if_pos hk]
      have hlast : ∀ y ∈ Lib.compactUpTo d m, M.less y d[m]! = true := by
        intro y hy
        obtain ⟨j, hj, _⟩ := (h2 y).1 hy
        have hm0 : 0 < m := by omega
        have hne : d[m]! ≠ d[m - 1]! := by
          intro e; rw [Lib.keeps_neg hm0 e] at hk; cases hk
        have hle := hs (m - 1) m (by omega) (by omega)
        have hlt : M.less d[m - 1]! d[m]! = true := by
          cases hh : M.less d[m - 1]! d[m]!
          · exact absurd (M.less_total hle hh) hne
          · rfl
        rcases h3 y hy hm0 with e | e
        · rw [e]; exact hlt
        · exact M.less_trans e hlt
      refine ⟨List.pairwise_append.2 ⟨h1, by simp, fun x hx y hy => ?_⟩, fun y => ?_, fun y hy _ => ?_⟩
      · simp at hy; subst hy; exact hlast x hx
      · rw [List.mem_append, h2]; simp only [List.mem_singleton]
        constructor
        · rintro (⟨j, hj, e⟩ | e)
          · exact ⟨j, by omega, e⟩
          · exact ⟨m, by omega, e.symm⟩
        · rintro ⟨j, hj, e⟩
          by_cases hjm : j = m
          · subst hjm; exact .inr e.symm
          · exact .inl ⟨j, by omega, e⟩
      · rw [Nat.add_sub_cancel]
        rcases List.mem_append.1 hy with hy | hy
        · exact .inr (hlast y hy)
        · simp at hy; exact .inl hy
    · rw [if_neg hk, List.append_nil]
      have hm0 : 0 < m := by
        rcases Nat.eq_zero_or_pos m with e | e
        · subst e; exact absurd (Lib.keeps_lt_one d 0 (by omega)) hk
        · exact e
      have he : d[m]! = d[m - 1]! := by
        rcases Decidable.em (d[m]! = d[m - 1]!) with e | e
        · exact e
        · exact absurd (Lib.keeps_pos e) hk
      refine ⟨h1, fun y => ?_, fun y hy _ => ?_⟩
      · rw [h2]
        constructor
        · rintro ⟨j, hj, e⟩; exact ⟨j, by omega, e⟩
        · rintro ⟨j, hj, e⟩
          by_cases hjm : j = m
          · subst hjm; exact ⟨j - 1, by omega, by rw [← e, he]⟩
          · exact ⟨j, by omega, e⟩
      · rw [Nat.add_sub_cancel, he]; exact h3 y hy hm0
theorem M.compact_norm {zs ss : List Int} (hs : ss.Pairwise (fun x y => M.less y x = false)) (hm : ∀ x, x ∈ ss ↔ x ∈ zs) : Lib.compact ss = M.norm zs := by
  have h := M.sorted_compactUpTo ss.toArray (fun i j hij hj => by
    have hj' : j < ss.length := by simpa using hj
    have := List.pairwise_iff_getElem.1 hs i j (by omega) hj' hij
    simpa [getElem!_pos, hj', show i < ss.length by omega] using this) ss.length (by simp)
  refine M.norm_of_mem zs h.1 fun x => ?_
  rw [Lib.compact, h.2.1, ← hm]
  constructor
  · rintro ⟨j, hj, e⟩
    rw [← e]; simp [getElem!_pos, hj]
  · intro hx
    obtain ⟨j, hj, e⟩ := List.getElem_of_mem hx
    exact ⟨j, hj, by simpa [getElem!_pos, hj] using e⟩

/-- literals -/
abbrev Lt := { x : Int // M.isLit x = true }
instance : Inhabited Lt := ⟨⟨1, rfl⟩⟩
def encL (x : Lt) : Value := .int .i64 x.1
theorem encL_one : OneCell encL := fun _ => rfl
def cfL (x y : Lt) : Int := M.cmp x.1 y.1
theorem ltOf_cfL (x y : Lt) : ltOf cfL x y = M.less x.1 y.1 := by
  rw [ltOf, cfL, Bool.eq_iff_iff, decide_eq_true_iff, M.cmp_less]
theorem swoL : SWO (ltOf cfL) := by
  refine ⟨fun x => ?_, fun x y z h1 h2 => ?_, fun x y z h1 h2 => ?_⟩
  · rw [ltOf_cfL]; exact M.less_irrefl _
  · rw [ltOf_cfL] at *; exact M.less_trans h1 h2
  · rw [ltOf_cfL, M.less_false] at *; omega
def toLt (zs : List Int) (h : ∀ z ∈ zs, M.isLit z = true) : List Lt := zs.pmap (fun z hz => ⟨z, hz⟩) h
theorem toLt_val (zs : List Int) (h : ∀ z ∈ zs, M.isLit z = true) : (toLt zs h).map (·.1) = zs := by
  simp [toLt, List.map_pmap]
theorem toLt_length (zs : List Int) (h : ∀ z ∈ zs, M.isLit z = true) : (toLt zs h).length = zs.length := by simp [toLt]
theorem holds_val {w : World} {g : Nat} {d : List Lt} (h : Holds encL w g 0 d.toArray) : Holds (Value.int .i64) w g 0 (d.map (·.1)).toArray := by
  intro j hj
  have hj' : j < d.length := by simpa using hj
  have := h j (by simpa using hj')
  simpa [getElem!_pos, hj', encL] using this
theorem holds_lt {w : World} {g : Nat} {d : List Lt} (h : Holds (Value.int .i64) w g 0 (d.map (·.1)).toArray) : Holds encL w g 0 d.toArray := by
  intro j hj
  have hj' : j < d.length := by simpa using hj
  have := h j (by simpa using hj')
  simpa [getElem!_pos, hj', encL] using this
theorem below_grow {B : Nat} {w0 w : World} (h : Below B w0 w) (hB : B ≤ w.heap.size) (os : Array Obj) : Below B w0 (grow w os) :=
  h.trans ⟨rfl, rfl, rfl, by simp [grow], fun k hk => by simp [grow, Array.getElem?_append, show k < w.heap.size by omega]⟩
theorem cmpLays (g size : Nat) (w : World) : CmpLays1 Tryd.prog 88 #[] encL cfL g 0 size w := by
  intro m os dk _ x y
  refine (order_any x.1 y.1 _ x.2 y.2).mono ?_
  rintro e w' ⟨rfl, o, rfl⟩
  exact ⟨rfl, 0, #[o], by rw [alloc_eq_grow]; rfl⟩
/-- behind the sort and the compacting -/
theorem sorted_tail {w w1 : World} {g nn : Nat} {os : Array Obj} {zs : List Int} (hl : ∀ z ∈ zs, M.isLit z = true) (hb : Below w.heap.size w w1) (hg : w.heap.size ≤ g) (hgl : g < w1.heap.size)
    {ts : List Lt} (hH : Holds encL w1 g 0 (toLt zs hl).toArray) (hts : ts.length = zs.length) :
    Holds (Value.int .i64) (sortWorld encL w1 g 0 nn ts.toArray os) g 0 (ts.map (·.1)).toArray ∧ Below w.heap.size w (sortWorld encL w1 g 0 nn ts.toArray os) ∧ g < (sortWorld encL w1 g 0 nn ts.toArray os).heap.size := by
  have hH2 : Holds encL (sortWorld encL w1 g 0 nn ts.toArray os) g 0 ts.toArray :=
    holds_grow encL _ os g 0 _ (by simpa [putRow, mapBlock, Sort.ahead] using hgl) (holds_putRow encL _ g 0 _ _ (holds_ahead encL w1 nn g 0 _ hH) (by simp [hts, toLt_length]))
  refine ⟨holds_val hH2, below_grow (Lib.below_putRow hb hg) (by simpa [putRow, mapBlock, Sort.ahead] using hb.size) os, ?_⟩
  simp [sortWorld, grow, putRow, mapBlock, Sort.ahead]; omega
theorem heap_sortWorld {α : Type} [Inhabited α] (enc : α → Value) {w : World} {g n : Nat} {os : Array Obj} {cur : Array Value} {e : TypeId} {fr : Nat × Nat} (d : Array α) (hb : w.heap[g]? = some (.cells cur e fr)) :
    ∃ cur', (sortWorld enc w g 0 n d os).heap[g]? = some (.cells cur' e fr) := by
  have hg : g < w.heap.size := (Array.getElem?_eq_some_iff.1 hb).1
  unfold sortWorld
  rw [heap_grow_old _ _ (by simpa [putRow, mapBlock, Sort.ahead] using hg)]
  exact ⟨_, by simp [putRow, mapBlock, Sort.ahead, Array.getElem?_modify, hb, onCells]; rfl⟩
theorem sorted_end {w w2 : World} {g cap q : Nat} {zs ss : List Int} (hl : ∀ z ∈ zs, M.isLit z = true) (hc : Lib.compact ss = M.norm zs) (hb : Below w.heap.size w w2) (hg : w.heap.size ≤ g) (hgl : g < w2.heap.size)
    (hH : Holds (Value.int .i64) w2 g 0 ss.toArray) (hss : ss.length = zs.length) (hcap : zs.length ≤ cap) (hsm : zs.length ≤ 17592186043904) (htag : ∃ cur, w2.heap[g]? = some (.cells cur 3 (0, 0))) :
    NewIntsT w (M.norm zs) (.returned (.slice (some ⟨g, 0, none⟩) (Lib.compact ss).length cap)) (putRow (Value.int .i64) (Sort.ahead w2 q) g 0 (Lib.compact ss ++ List.replicate (ss.length - (Lib.compact ss).length) 0).toArray) := by
  have hle : (Lib.compact ss).length ≤ ss.length := Lib.compact_length_le ss
  have hln : (M.norm zs).length ≤ zs.length := M.norm_length zs
  have hH2 := holds_putRow (Value.int .i64) (Sort.ahead w2 q) g 0 ss.toArray (Lib.compact ss ++ List.replicate (ss.length - (Lib.compact ss).length) 0).toArray (holds_ahead _ w2 q g 0 _ hH) (by simp; omega)
  refine ⟨_, _, by rw [hc], ⟨fun _ => ⟨g, 0, rfl, by simpa [putRow, mapBlock, Sort.ahead] using hgl, fun i z hz => ?_⟩, fun z hz => I64.of_lit (hl z ((M.mem_norm zs z).1 hz)), by omega⟩, by omega, (fun h => by cases h), Lib.below_putRow hb hg, (fun ad e => by cases e; exact hg), fun ad e => ?_⟩
  rotate_left
  · cases e
    obtain ⟨cur, hcur⟩ := htag
    exact ⟨_, (0, 0), by simp [putRow, mapBlock, Sort.ahead, Array.getElem?_modify, hcur, onCells]; rfl⟩
  have hi : i < (M.norm zs).length := by
    rcases Nat.lt_or_ge i (M.norm zs).length with h' | h'
    · exact h'
    · rw [List.getElem?_eq_none h'] at hz; cases hz
  rw [← hc] at hz hi
  have h := (hH2 i (by simp; omega)).1
  rw [h]
  have e : (Lib.compact ss ++ List.replicate (ss.length - (Lib.compact ss).length) (0 : Int)).toArray[i]! = z := by
    rw [getElem!_pos _ i (by simp; omega)]
    have := List.getElem?_append_left (l₂ := List.replicate (ss.length - (Lib.compact ss).length) (0 : Int)) hi
    rw [hz] at this
    simp only [List.getElem_toArray]
    exact (List.getElem?_eq_some_iff.1 this).2
  rw [e]
def M.ms (d : List Lt) : List Lt := d.mergeSort fun x y => !(ltOf cfL) y x
theorem M.ms_pairwise (d : List Lt) : ((M.ms d).map (·.1)).Pairwise (fun x y => M.less y x = false) := by
  rw [List.pairwise_map]
  have h := List.pairwise_mergeSort (le := fun x y => !(ltOf cfL) y x) (fun a b c h1 h2 => by
      simp only [Bool.not_eq_true'] at *; exact swoL.ntrans c b a h2 h1) (fun a b => by
      simp only [Bool.or_eq_true, Bool.not_eq_true', ltOf_cfL]
      cases hh : M.less b.1 a.1
      · exact .inl rfl
      · exact .inr (M.less_asymm hh)) d
  exact h.imp fun h => by simpa [ltOf_cfL] using h
theorem M.ms_mem (d : List Lt) (x : Int) : x ∈ (M.ms d).map (·.1) ↔ x ∈ d.map (·.1) := by
  simp [M.ms]
theorem M.ms_length (d : List Lt) : (M.ms d).length = d.length := by simp [M.ms]
theorem clone_sort {w w1 : World} {v : Value} {zs : List Int} (hl : ∀ z ∈ zs, M.isLit z = true) (hown : w1.ownsRow w.heap.size 3 1 v zs.length (zs.map (Value.int .i64))) (hnn : v ≠ .slice none 0 0) :
    ∃ g cap, v = .slice (some ⟨g, 0, none⟩) zs.length cap ∧ w.heap.size ≤ g ∧ g < w1.heap.size ∧ zs.length ≤ cap ∧ Holds encL w1 g 0 (toLt zs hl).toArray ∧ ∃ cur, w1.heap[g]? = some (.cells cur 3 (0, 0)) := by
  obtain ⟨g, cap, rfl, hbg, hgl, hncap, _, _, hH⟩ := Lib.holds_of_ownsRow hown hnn
  refine ⟨g, cap, rfl, hbg, hgl, hncap, holds_lt (by rw [toLt_val]; exact hH), ?_⟩
  rcases hown.2 with ⟨e0, _⟩ | ⟨g', cap', cur, e0, _, hg', _⟩
  · cases e0
  · injection e0 with e1
    injection e1 with e1
    injection e1 with e1
    subst e1
    exact ⟨cur, hg'⟩
set_option maxHeartbeats 1000000 in
theorem sorted_some (ad : Addr) (c : Nat) (zs : List Int) (w : World) (hz : Ints w (some ad) zs) (hl : ∀ z ∈ zs, M.isLit z = true) (h0 : 0 < zs.length) :
    Calls Tryd.prog 69 #[.slice (some ad) zs.length c] w (NewIntsT w (M.norm zs)) := by
  have hlen := hz.len
  obtain ⟨b, off, e, hbl, hcl⟩ := hz.addr h0
  cases e
  have hclone := Tryd.slices_Clone_int b off zs.length c zs w (Nat.le_refl _) (by omega) (fun j hj => by
    rw [List.getD_eq_getElem?_getD, List.getElem?_eq_getElem hj]; exact hcl j _ (List.getElem?_eq_getElem hj))
  rw [List.take_of_length_le (Nat.le_refl _)] at hclone
  have HCL := Lib.hid hclone
  have HL := Lib.hid hl
  clear hclone hcl hz hl
  go_enter Tryd.func69, Tryd.ntmps69
  go_wp2_with fail
  refine HCL.out.mono ?_
  rintro e w1 ⟨v', rfl, hown, hnn, hb1⟩
  obtain ⟨g, cap, rfl, hg, hgl, hcap, hH, cur, hcur⟩ := clone_sort HL.out hown hnn
  have HCUR := Lib.hid hcur
  have HB1 := Lib.hid hb1
  have HH := Lib.hid hH
  clear hown hnn hb1 hH hcur
  have hsort := Tryd.slices_SortFunc_total_f80 encL encL_one cfL swoL 88 #[] g 0 cap (toLt zs HL.out).toArray w1 (enters_of Tryd.func88 (by kernel_rfl) rfl) (cmpLays g _ w1) HH.out hgl (by simp [toLt_length]; omega) (fun x y h1 h2 => by
    rw [ltOf_cfL] at h1 h2; exact Subtype.ext (M.less_total h1 h2))
  simp only [List.size_toArray, toLt_length] at hsort
  have HS := Lib.hid hsort
  clear hsort
  go_wp2_with fail
  refine HS.out.mono ?_
  rintro e w2 ⟨rfl, nn, os, rfl⟩
  have hts : (M.ms (toLt zs HL.out)).length = zs.length := by rw [M.ms_length, toLt_length]
  obtain ⟨hH2, hb2, hgl2⟩ := sorted_tail (nn := nn) (os := os) HL.out HB1.out hg hgl HH.out hts
  have hcn : Lib.compact ((M.ms (toLt zs HL.out)).map (·.1)) = M.norm zs := M.compact_norm (M.ms_pairwise _) (fun x => by rw [M.ms_mem, toLt_val])
  have hcomp := Tryd.slices_Compact_int g 0 cap ((M.ms (toLt zs HL.out)).map (·.1)) _ hH2 (by simp [hts]; omega) (by simp [hts]; omega)
  rw [List.length_map, hts] at hcomp
  have HC := Lib.hid hcomp
  have HB2 := Lib.hid hb2
  have HH2 := Lib.hid hH2
  have HCN := Lib.hid hcn
  have HTS := Lib.hid hts
  clear hcomp hb2 hH2 hcn hts
  go_wp2_with fail
  refine HC.out.mono ?_
  rintro e w3 ⟨rfl, q, rfl⟩
  go_wp2_with fail
  go_ret
  have := sorted_end (q := q) HL.out HCN.out HB2.out hg hgl2 HH2.out (by rw [List.length_map]; exact HTS.out) hcap hlen (heap_sortWorld _ _ HCUR.out)
  rw [List.length_map, HTS.out] at this
  exact this
end Go.Proofs.YtgpifbhfnbkgoaaDoor

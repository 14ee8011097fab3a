/- How arguments are read: slices of whatever, structs field by field. No program in sight. -/
import Derived.Deep.Slices
import Derived.SizedLaws
import Derived.ChangeSlices
import Derived.Below
namespace Go.Proofs.YtnmcajinaigcjaaGreatDoor
open Go.ChangeShapes Go.WideShapes Go.Deep Go.RowKit

theorem list_choose {α : Type} {Q : Nat → α → Prop} : ∀ n : Nat, (∀ i, i < n → ∃ x, Q i x) → ∃ xs : List α, xs.length = n ∧ ∀ i x, xs[i]? = some x → Q i x
  | 0, _ => ⟨[], rfl, fun i x h => by simp at h⟩
  | n + 1, h => by
    obtain ⟨xs, h1, h2⟩ := list_choose n (fun i hi => h i (by omega))
    obtain ⟨y, hy⟩ := h n (by omega)
    refine ⟨xs ++ [y], by simp [h1], fun i x hx => ?_⟩
    by_cases hi : i < xs.length
    · rw [List.getElem?_append_left hi] at hx; exact h2 i x hx
    · have : i = xs.length := by
        rcases Nat.lt_or_ge i (xs ++ [y]).length with h' | h'
        · simp at h'; omega
        · rw [List.getElem?_eq_none h'] at hx; cases hx
      subst this
      simp at hx; subst hx; rw [h1]; exact hy
section
variable {H : Type} {enc : TypeId × Value → H} {P : Program} {w : World}
def InReach (P : Program) (t : TypeId) (d : DataW H) : Prop := ∀ n ∈ d.weights P t, n ≤ reachBytes
def Lows (w : World) (ps : List MemPlace) : Prop := ∀ y ∈ ps, y.block < w.heap.size
theorem weightsAll_mem {e : TypeId} {d : DataW H} {n : Nat} : ∀ {l : List (DataW H)}, d ∈ l → n ∈ d.weights P e → n ∈ DataW.weightsAll P e l
  | d0 :: l, hd, hn => by
    simp only [DataW.weightsAll, List.mem_append]
    rcases List.mem_cons.1 hd with rfl | hd
    · exact .inl hn
    · exact .inr (weightsAll_mem hd hn)
/-- a slice whose elements are k cells each, read by R -/
def RSl {α : Type} (R : World → List Value → α → Prop) (k by' : Nat) (w : World) (vs : List Value) (xs : List α) : Prop :=
  ∃ a c, vs = [.slice a xs.length c] ∧ (a = none → c = 0) ∧ xs.length ≤ c ∧ xs.length * by' ≤ reachBytes ∧ (∀ ad, a = some ad → 0 < c * k → ad.block < w.heap.size) ∧
    (0 < xs.length → ∃ b off, a = some ⟨b, off, none⟩ ∧ b < w.heap.size ∧ ∀ (i : Nat) (x : α), xs[i]? = some x → ∃ us : List Value, us.length = k ∧ (∀ j, j < k → w.cell? ⟨b, off + i * k + j, none⟩ = us[j]?) ∧ R w us x)
theorem addr_add' (b off j : Nat) : (⟨b, off, none⟩ : Addr).add j = ⟨b, off + j, none⟩ := by
  unfold Addr.add; split
  · rename_i h; subst h; simp
  · rfl
theorem open_RSl {α : Type} {R : World → List Value → α → Prop} {t e : TypeId} {k by' fuel : Nat} {cs : List Value} {d : DataW H} {ps : List MemPlace} (ht : P.underlying t = some (.slice e)) (hk : P.cellsOf e = k) (hk0 : 0 < k) (hby : P.bytesOf e = by')
    (hopen : ∀ n us d' ps', DataW.trod enc P w 0 (fun _ => true) true n e us = some (d', ps') → InReach P e d' → Lows w ps' → ∃ x, R w us x)
    (h : DataW.trod enc P w 0 (fun _ => true) true fuel t cs = some (d, ps)) (hr : InReach P t d) (hl : Lows w ps) : ∃ xs : List α, RSl R k by' w cs xs := by
  rcases open_slice ht h with ⟨rfl, _⟩ | ⟨a, len, cap, m, n, D, Pl, rfl, _, hlc, _, hm, hx, hi⟩
  · exact ⟨[], none, 0, rfl, fun _ => rfl, Nat.le_refl _, by simp, (fun ad e => by cases e), fun h => by simp at h⟩
  · simp only [if_true] at hm
    subst hm
    simp only [Prod.mk.injEq] at hx
    obtain ⟨rfl, rfl⟩ := hx
    obtain ⟨xs, hxl, hxs⟩ := list_choose (Q := fun i x => ∃ us : List Value, w.cells? 0 (a.add (i * k)) k = some us ∧ R w us x) len (fun i hil => by
      obtain ⟨us, h1, h2⟩ := hi i (by omega)
      rw [hk] at h1
      have hmem : D i ∈ (List.range len).map D := List.mem_map.2 ⟨i, by simpa using hil, rfl⟩
      obtain ⟨x, hx⟩ := hopen n us (D i) (Pl i) h2 (fun q hq => hr q (by
        simp only [DataW.weights, ht, List.mem_cons, List.mem_append]
        exact .inr (.inl (weightsAll_mem hmem hq)))) (fun y hy => hl y (List.mem_append_right _ (List.mem_flatMap.2 ⟨i, by simp; omega, hy⟩)))
      exact ⟨x, us, h1, hx⟩)
    have hblk : 0 < m * k → a.block < w.heap.size := fun h0 => hl (.cell a.block a.off) (List.mem_append_left _ (by
      rw [hk]; simp only [MemPlace.row, List.mem_map, List.mem_range]; exact ⟨0, h0, by simp⟩))
    refine ⟨xs, some a, m, by rw [hxl], (fun h => by cases h), by omega, ?_, (fun ad e h0 => by cases e; exact hblk h0), fun h0 => ?_⟩
    · have := hr ((((List.range len).map D).length + ((List.range (m - len)).map fun j => D (len + j)).length) * P.bytesOf e) (by simp [DataW.weights, ht])
      simp only [List.length_map, List.length_range, hby] at this
      exact Nat.le_trans (Nat.mul_le_mul_right _ (by omega)) this
    · have hl0 : 0 < len := by omega
      obtain ⟨us0, h1, _⟩ := hxs 0 xs[0] (List.getElem?_eq_getElem h0)
      obtain ⟨_, hul, hat⟩ := World.cells?_some h1
      have hc0 := hat 0 hk0
      rw [List.getElem?_eq_getElem (by omega)] at hc0
      obtain ⟨b, off, spot⟩ := a
      have hspot : spot = none := by simpa [Addr.add] using World.cell?_spot hc0
      subst hspot
      refine ⟨b, off, rfl, hblk (Nat.mul_pos (by omega) hk0), fun i x hx => ?_⟩
      obtain ⟨us, h2, h3⟩ := hxs i x hx
      obtain ⟨_, hul2, hat2⟩ := World.cells?_some h2
      refine ⟨us, hul2, fun j hj => ?_, h3⟩
      have := hat2 j hj
      rwa [addr_add', addr_add'] at this
theorem RSl.below {α : Type} {R : World → List Value → α → Prop} {k by' : Nat} {w w' : World} {vs : List Value} {xs : List α} (hR : ∀ us x, R w us x → R w' us x) (h : RSl R k by' w vs xs) (hb : Below w.heap.size w w') : RSl R k by' w' vs xs := by
  obtain ⟨a, c, h1, h2, h3, h4, h5, h6⟩ := h
  refine ⟨a, c, h1, h2, h3, h4, fun ad e h0 => Nat.lt_of_lt_of_le (h5 ad e h0) hb.size, fun h0 => ?_⟩
  obtain ⟨b, off, e, hlt, hc⟩ := h6 h0
  refine ⟨b, off, e, Nat.lt_of_lt_of_le hlt hb.size, fun i x hx => ?_⟩
  obtain ⟨us, u1, u2, u3⟩ := hc i x hx
  exact ⟨us, u1, fun j hj => (hb.cell (p := ⟨b, off + i * k + j, none⟩) hlt).trans (u2 j hj), hR us x u3⟩
/-- a struct, field by field -/
theorem open_fields {t : TypeId} {fs : Array Field} {fuel : Nat} {cs : List Value} {d : DataW H} {ps : List MemPlace} (ht : P.underlying t = some (.struct fs))
    (h : DataW.trod enc P w 0 (fun _ => true) true fuel t cs = some (d, ps)) (hr : InReach P t d) (hl : Lows w ps) :
    cs.length = P.cellsOf t ∧ ∃ n, ∀ (j ty off k : Nat) (f : Field), fs[j]? = some f → f.type = ty → f.offset = off → P.cellsOf ty = k → ∃ d' ps', DataW.trod enc P w 0 (fun _ => true) true n ty ((cs.drop off).take k) = some (d', ps') ∧ InReach P ty d' ∧ Lows w ps' := by
  obtain ⟨ys, n, _, hy, hcl, hyl, hf⟩ := DataW.trod_struct ht h
  simp only [Prod.mk.injEq] at hy
  obtain ⟨rfl, rfl⟩ := hy
  refine ⟨hcl, n, fun j ty off k f hj e1 e2 e3 => ?_⟩
  subst e1 e2 e3
  have hjl : j < ys.length := by rw [hyl]; exact (Array.getElem?_eq_some_iff.1 hj).1
  have h1 := hf j f hj
  rw [List.getElem?_eq_getElem hjl] at h1
  refine ⟨ys[j].1, ys[j].2, h1, fun q hq => hr q ?_, fun y hy => hl y (List.mem_flatMap.2 ⟨ys[j], List.getElem_mem hjl, hy⟩)⟩
  simp only [DataW.weights, ht]
  refine DataW.weights_mem_each (j := j) (t := f.type) (d := ys[j].1) ?_ ?_ q hq
  · rw [List.getElem?_map, Array.getElem?_toList, hj]; rfl
  · rw [List.getElem?_map, List.getElem?_eq_getElem hjl]; rfl
/-- a string -/
theorem open_str {t : TypeId} {fuel : Nat} {cs : List Value} {d : DataW H} {ps : List MemPlace} (ht : P.underlying t = some .string)
    (h : DataW.trod enc P w 0 (fun _ => true) true fuel t cs = some (d, ps)) (hr : InReach P t d) : ∃ s : ByteArray, cs = [.string s] ∧ s.size ≤ reachBytes := by
  obtain ⟨s, rfl, hx, _⟩ := DataW.trod_string ht h
  simp only [Prod.mk.injEq] at hx
  obtain ⟨rfl, _⟩ := hx
  refine ⟨s, rfl, ?_⟩
  have := hr s.data.toList.length (by simp [DataW.weights])
  simpa using this
end
end Go.Proofs.YtnmcajinaigcjaaGreatDoor

/- One text of XOMath, XOEx, XOReach, XOComes, XORings, XOBest, XOBeh, XORow, XONeeds, XOOrd, XOCmp, XOSame, XOSrch, XONew, XORws, XOFind, XOMap, XORdy, XODel: a claim has at most 60 files. -/
import Derived.Test.YtnmcajinaigcjaaGreatDoorQIv
import Derived.Test.YtnmcajinaigcjaaGreatDoorQFits
import Derived.Test.YtnmcajinaigcjaaGreatDoorQBig
import Derived.StillTailTactics
import Derived.Test.YtnmcajinaigcjaaGreatDoorQMath
import Derived.Test.YtnmcajinaigcjaaGreatDoorQItem
import Derived.Shelf.SlSortCmp.Kit1
import Derived.Test.YtnmcajinaigcjaaGreatDoorQBools
import Derived.Deep.LoopGhost
import Derived.Maps.OwnSet
import Derived.Maps.OwnOps
import Derived.Deep.DeepAppendRoom
import Derived.Lib.SliceRun
namespace Go.Proofs.YtnmcajinaigcjaaGreatDoor
namespace O

/-- reached by one need or several -/
inductive Rch (nd : Nat → Nat → Bool) : Nat → Nat → Prop
  | one {i j : Nat} : nd i j = true → Rch nd i j
  | more {i j k : Nat} : Rch nd i j → nd j k = true → Rch nd i k
theorem Rch.trans {nd : Nat → Nat → Bool} {i j k : Nat} (h : Rch nd i j) (h' : Rch nd j k) : Rch nd i k := by
  induction h' with
  | one h1 => exact .more h h1
  | more _ h1 ih => exact .more ih h1
theorem Rch.ends {nd : Nat → Nat → Bool} {P Q : Nat → Prop} (h1 : ∀ i j, nd i j = true → P i ∧ Q j) {i j : Nat} (h : Rch nd i j) : P i ∧ Q j := by
  induction h with
  | one h => exact h1 _ _ h
  | more _ h ih => exact ⟨ih.1, (h1 _ _ h).2⟩
noncomputable def rb (nd : Nat → Nat → Bool) (i j : Nat) : Bool := @decide (Rch nd i j) (Classical.propDecidable _)
theorem rb_iff {nd : Nat → Nat → Bool} {i j : Nat} : rb nd i j = true ↔ Rch nd i j := by
  unfold rb; exact @decide_eq_true_iff _ (Classical.propDecidable _)
/-- in one ring -/
noncomputable def same (nd : Nat → Nat → Bool) (i j : Nat) : Bool := i == j || rb nd i j && rb nd j i
theorem same_iff {nd : Nat → Nat → Bool} {i j : Nat} : same nd i j = true ↔ i = j ∨ Rch nd i j ∧ Rch nd j i := by
  simp [same, rb_iff]
theorem same_refl (nd : Nat → Nat → Bool) (i : Nat) : same nd i i = true := by simp [same]
theorem same_symm {nd : Nat → Nat → Bool} {i j : Nat} (h : same nd i j = true) : same nd j i = true := by
  rw [same_iff] at *
  rcases h with rfl | ⟨h1, h2⟩
  · exact .inl rfl
  · exact .inr ⟨h2, h1⟩
theorem same_trans {nd : Nat → Nat → Bool} {i j k : Nat} (h : same nd i j = true) (h' : same nd j k = true) : same nd i k = true := by
  rw [same_iff] at *
  rcases h with rfl | ⟨h1, h2⟩
  · exact h'
  · rcases h' with rfl | ⟨h3, h4⟩
    · exact .inr ⟨h1, h2⟩
    · exact .inr ⟨h1.trans h3, h4.trans h2⟩
theorem same_comm (nd : Nat → Nat → Bool) (i j : Nat) : same nd i j = same nd j i := by
  rw [Bool.eq_iff_iff]; exact ⟨same_symm, same_symm⟩
theorem same_left {nd : Nat → Nat → Bool} {i j : Nat} (h : same nd i j = true) (k : Nat) : same nd i k = same nd j k := by
  rw [Bool.eq_iff_iff]; exact ⟨same_trans (same_symm h), same_trans h⟩

/-- an order of places -/
structure Ord (lt : Nat → Nat → Bool) : Prop where
  irrefl : ∀ i, lt i i = false
  trans : ∀ {i j k}, lt i j = true → lt j k = true → lt i k = true
  total : ∀ {i j}, lt i j = false → lt j i = false → i = j
theorem Ord.asymm {lt : Nat → Nat → Bool} (h : Ord lt) {i j : Nat} (h1 : lt i j = true) : lt j i = false := by
  cases h2 : lt j i
  · rfl
  · have := h.trans h1 h2; rw [h.irrefl] at this; cases this
theorem perm_sorted {α : Type} {r : α → α → Prop} (has : ∀ x y, r x y → r y x → x = y) : ∀ {l l' : List α}, l.Perm l' → l.Pairwise r → l'.Pairwise r → l = l'
  | [], l', hp, _, _ => (List.nil_perm.1 hp).symm
  | x :: l, [], hp, _, _ => by simpa using hp.length_eq
  | x :: l, y :: l', hp, h1, h2 => by
    obtain ⟨a1, a2⟩ := List.pairwise_cons.1 h1
    obtain ⟨b1, b2⟩ := List.pairwise_cons.1 h2
    have e : x = y := by
      have hx : x ∈ y :: l' := hp.mem_iff.1 (by simp)
      have hy : y ∈ x :: l := hp.mem_iff.2 (by simp)
      rcases List.mem_cons.1 hx with h | h
      · exact h
      · rcases List.mem_cons.1 hy with h' | h'
        · exact h'.symm
        · exact has _ _ (a1 _ h') (b1 _ h)
    subst e
    rw [perm_sorted has (List.Perm.cons_inv hp) a2 b2]
/-- places in order -/
def srt (lt : Nat → Nat → Bool) (l : List Nat) : List Nat := l.mergeSort fun x y => !lt y x
theorem srt_perm (lt : Nat → Nat → Bool) (l : List Nat) : (srt lt l).Perm l := List.mergeSort_perm _ _
theorem mem_srt {lt : Nat → Nat → Bool} {l : List Nat} {x : Nat} : x ∈ srt lt l ↔ x ∈ l := (srt_perm lt l).mem_iff
theorem srt_pw {lt : Nat → Nat → Bool} (h : Ord lt) (l : List Nat) : (srt lt l).Pairwise fun x y => lt y x = false := by
  have := List.pairwise_mergeSort (le := fun x y => !lt y x) (fun a b c h1 h2 => by
    simp only [Bool.not_eq_true'] at *
    cases h3 : lt c a
    · rfl
    · exfalso
      cases h4 : lt a b
      · cases h5 : lt b c
        · have e1 := h.total h4 h1; have e2 := h.total h5 h2
          subst e1; subst e2; rw [h.irrefl] at h3; cases h3
        · have e1 := h.total h4 h1; subst e1; rw [h.asymm h5] at h3; cases h3
      · have := h.trans h3 h4; rw [h2] at this; cases this) (fun a b => by
    cases h1 : lt b a
    · simp
    · simp [h.asymm h1]) l
  simpa [srt] using this
theorem srt_eq {lt : Nat → Nat → Bool} (h : Ord lt) {l l' : List Nat} (hp : l.Perm l') (hs : l'.Pairwise fun x y => lt y x = false) : srt lt l = l' :=
  perm_sorted (fun _ _ h1 h2 => h.total h2 h1) ((srt_perm lt l).trans hp) (srt_pw h l) hs
theorem srt_congr {lt : Nat → Nat → Bool} (h : Ord lt) {l l' : List Nat} (hp : l.Perm l') : srt lt l = srt lt l' :=
  srt_eq h (hp.trans (srt_perm lt l').symm) (srt_pw h l')
theorem srt_one (lt : Nat → Nat → Bool) (x : Nat) : srt lt [x] = [x] := by simp [srt]

/-- what stands first -/
def hd (l : List Nat) : Nat := l.getD 0 0
theorem hd_mem {l : List Nat} (h : l ≠ []) : hd l ∈ l := by
  cases l with
  | nil => exact absurd rfl h
  | cons x t => simp [hd]
/-- the chosen of a place's ring, of the first m -/
noncomputable def cls (ch : Nat → Bool) (nd lt : Nat → Nat → Bool) (m x : Nat) : List Nat := srt lt ((List.range m).filter fun k => ch k && same nd x k)
section
variable {ch : Nat → Bool} {nd lt : Nat → Nat → Bool} {n : Nat}
theorem mem_cls {m x k : Nat} : k ∈ cls ch nd lt m x ↔ k < m ∧ ch k = true ∧ same nd x k = true := by
  simp [cls, mem_srt]
theorem cls_same {m x y : Nat} (h : same nd x y = true) : cls ch nd lt m x = cls ch nd lt m y := by
  unfold cls; congr 2; funext k; rw [same_left h]
theorem cls_ne {m x : Nat} (hx : x < m) (hc : ch x = true) : cls ch nd lt m x ≠ [] := List.ne_nil_of_mem (mem_cls.2 ⟨hx, hc, same_refl _ _⟩)
theorem cls_hd {m x : Nat} (hx : x < m) (hc : ch x = true) : hd (cls ch nd lt m x) < m ∧ ch (hd (cls ch nd lt m x)) = true ∧ same nd x (hd (cls ch nd lt m x)) = true := mem_cls.1 (hd_mem (cls_ne hx hc))
theorem cls_hd_inj {m x y : Nat} (hx : x < m) (hc : ch x = true) (hy : y < m) (hc' : ch y = true) (h : hd (cls ch nd lt m x) = hd (cls ch nd lt m y)) : cls ch nd lt m x = cls ch nd lt m y := by
  have h1 := (cls_hd (nd := nd) (lt := lt) hx hc).2.2
  have h2 := (cls_hd (nd := nd) (lt := lt) hy hc').2.2
  rw [← h] at h2
  exact cls_same (same_trans h1 (same_symm h2))
theorem cls_nodup (m x : Nat) : (cls ch nd lt m x).Nodup := (srt_perm lt _).nodup_iff.2 (List.nodup_range.filter _)
theorem cls_hd_le (hO : Ord lt) {m x k : Nat} (hk : k ∈ cls ch nd lt m x) : lt k (hd (cls ch nd lt m x)) = false := by
  have hp := srt_pw hO ((List.range m).filter fun k => ch k && same nd x k)
  unfold cls at *
  generalize srt lt ((List.range m).filter fun k => ch k && same nd x k) = l at *
  cases l with
  | nil => simp at hk
  | cons y t =>
    rcases List.mem_cons.1 hk with rfl | h
    · simp [hd, hO.irrefl]
    · exact (List.pairwise_cons.1 hp).1 _ h

/-! ### the order, ring by ring -/
/-- all that a place comes to and that is not in its ring is told -/
def Ready (nd : Nat → Nat → Bool) (L : List (List Nat)) (i : Nat) : Prop := ∀ k, Rch nd i k → same nd i k = false → k ∈ L.flatten
def Cand (ch : Nat → Bool) (nd : Nat → Nat → Bool) (n : Nat) (L : List (List Nat)) (i : Nat) : Prop := i < n ∧ ch i = true ∧ i ∉ L.flatten ∧ Ready nd L i
def Next (ch : Nat → Bool) (nd lt : Nat → Nat → Bool) (n : Nat) (L : List (List Nat)) (r : List Nat) : Prop :=
  ∃ i, Cand ch nd n L i ∧ r = cls ch nd lt n i ∧ ∀ j, Cand ch nd n L j → lt (hd (cls ch nd lt n j)) (hd (cls ch nd lt n i)) = false
def Done (ch : Nat → Bool) (nd : Nat → Nat → Bool) (n : Nat) (L : List (List Nat)) : Prop := ∀ i, ¬ Cand ch nd n L i
inductive Chain (ch : Nat → Bool) (nd lt : Nat → Nat → Bool) (n : Nat) : List (List Nat) → Prop
  | nil : Chain ch nd lt n []
  | snoc {L : List (List Nat)} {r : List Nat} : Chain ch nd lt n L → Next ch nd lt n L r → Chain ch nd lt n (L ++ [r])
theorem Next.det (hO : Ord lt) {L : List (List Nat)} {r r' : List Nat} (h : Next ch nd lt n L r) (h' : Next ch nd lt n L r') : r = r' := by
  obtain ⟨i, h1, rfl, h2⟩ := h
  obtain ⟨j, h3, rfl, h4⟩ := h'
  exact cls_hd_inj h1.1 h1.2.1 h3.1 h3.2.1 (hO.total (h4 i h1) (h2 j h3))
theorem Chain.inv {L : List (List Nat)} (h : Chain ch nd lt n L) : L = [] ∨ ∃ L' r, L = L' ++ [r] ∧ Chain ch nd lt n L' ∧ Next ch nd lt n L' r := by
  cases h with
  | nil => exact .inl rfl
  | snoc h1 h2 => exact .inr ⟨_, _, rfl, h1, h2⟩
theorem Chain.take {L : List (List Nat)} (h : Chain ch nd lt n L) (k : Nat) : Chain ch nd lt n (L.take k) := by
  induction h with
  | nil => simp; exact .nil
  | @snoc L r h1 h2 ih =>
    rcases Nat.lt_or_ge L.length k with hk | hk
    · rw [List.take_of_length_le (by simp; omega)]; exact .snoc h1 h2
    · rw [List.take_append_of_le_length hk]; exact ih
theorem Chain.nth {L : List (List Nat)} (h : Chain ch nd lt n L) {k : Nat} {r : List Nat} (hr : L[k]? = some r) : Next ch nd lt n (L.take k) r := by
  have h1 := h.take (k + 1)
  rw [List.take_add_one, hr] at h1
  rcases h1.inv with e | ⟨L', r', e, _, h3⟩
  · simp at e
  · simp only [Option.toList_some] at e
    obtain ⟨e1, e2⟩ := List.append_inj' e rfl
    simp at e2; subst e2; rw [e1]; exact h3
theorem Chain.pre (hO : Ord lt) {L L' : List (List Nat)} (h : Chain ch nd lt n L) (h' : Chain ch nd lt n L') (hl : L.length ≤ L'.length) : L = L'.take L.length := by
  induction h with
  | nil => simp
  | @snoc L r h1 h2 ih =>
    simp at hl
    have e := ih (by omega)
    obtain ⟨r', hr⟩ : ∃ r', L'[L.length]? = some r' := ⟨_, List.getElem?_eq_getElem (by omega)⟩
    have h3 := h'.nth hr
    rw [← e] at h3
    rw [List.length_append, List.length_singleton, List.take_add_one, hr, ← e, h2.det hO h3]; rfl
theorem Chain.not_done (hO : Ord lt) {L L' : List (List Nat)} (h : Chain ch nd lt n L) (h' : Chain ch nd lt n L') (hl : L.length < L'.length) : ¬ Done ch nd n L := by
  intro hd
  have e := h.pre hO h' (by omega)
  obtain ⟨r', hr⟩ : ∃ r', L'[L.length]? = some r' := ⟨_, List.getElem?_eq_getElem hl⟩
  have h3 := h'.nth hr
  rw [← e] at h3
  obtain ⟨i, h4, _⟩ := h3
  exact hd i h4
theorem Chain.uniq (hO : Ord lt) {L L' : List (List Nat)} (h : Chain ch nd lt n L) (h' : Chain ch nd lt n L') (hd : Done ch nd n L) (hd' : Done ch nd n L') : L = L' := by
  have h1 : ¬ L.length < L'.length := fun e => h.not_done hO h' e hd
  have h2 : ¬ L'.length < L.length := fun e => h'.not_done hO h e hd'
  have e := h.pre hO h' (by omega)
  rw [e, List.take_of_length_le (by omega)]
theorem mem_flatten_snoc {L : List (List Nat)} {r : List Nat} {x : Nat} : x ∈ (L ++ [r]).flatten ↔ x ∈ L.flatten ∨ x ∈ r := by simp
/-- what is told -/
theorem Chain.told {L : List (List Nat)} (h : Chain ch nd lt n L) : (∀ x ∈ L.flatten, x < n ∧ ch x = true) ∧ (∀ x y, x ∈ L.flatten → y < n → ch y = true → same nd x y = true → y ∈ L.flatten) ∧ L.flatten.Nodup ∧ (∀ r ∈ L, ∃ i, i < n ∧ ch i = true ∧ r = cls ch nd lt n i) := by
  induction h with
  | nil => simp
  | @snoc L r h1 h2 ih =>
    obtain ⟨i, hc, rfl, _⟩ := h2
    obtain ⟨i1, i2, i3, i4⟩ := ih
    refine ⟨fun x hx => ?_, fun x y hx hy hcy hs => ?_, ?_, fun r hr => ?_⟩
    · rcases mem_flatten_snoc.1 hx with h | h
      · exact i1 x h
      · exact ⟨(mem_cls.1 h).1, (mem_cls.1 h).2.1⟩
    · rcases mem_flatten_snoc.1 hx with h | h
      · exact mem_flatten_snoc.2 (.inl (i2 x y h hy hcy hs))
      · exact mem_flatten_snoc.2 (.inr (mem_cls.2 ⟨hy, hcy, same_trans (mem_cls.1 h).2.2 hs⟩))
    · rw [List.flatten_append]
      refine List.nodup_append.2 ⟨i3, by simpa using cls_nodup n i, fun a ha b hb e => ?_⟩
      subst e
      simp at hb
      obtain ⟨h3, h4, h5⟩ := mem_cls.1 hb
      exact hc.2.2.1 (i2 a i ha hc.1 hc.2.1 (same_symm h5))
    · rcases List.mem_append.1 hr with h | h
      · exact i4 r h
      · simp at h; subst h; exact ⟨i, hc.1, hc.2.1, rfl⟩
/-- needs lead to what is told before, or in the ring -/
theorem Chain.needs (hnd : ∀ i j, nd i j = true → (i < n ∧ ch i = true) ∧ (j < n ∧ ch j = true)) {L : List (List Nat)} (h : Chain ch nd lt n L) {k : Nat} {r : List Nat} (hr : L[k]? = some r) {i j : Nat} (hi : i ∈ r) (hj : nd i j = true) : j ∈ (L.take k).flatten ∨ j ∈ r := by
  obtain ⟨x, hc, rfl, _⟩ := h.nth hr
  obtain ⟨h1, h2, h3⟩ := mem_cls.1 hi
  obtain ⟨_, h5, h6⟩ := hnd i j hj
  cases hs : same nd x j
  · refine .inl (hc.2.2.2 j ?_ hs)
    rcases same_iff.1 h3 with rfl | ⟨h7, _⟩
    · exact .one hj
    · exact .more h7 hj
  · exact .inr (mem_cls.2 ⟨h5, h6, hs⟩)
theorem Chain.closed (hnd : ∀ i j, nd i j = true → (i < n ∧ ch i = true) ∧ (j < n ∧ ch j = true)) {L : List (List Nat)} (h : Chain ch nd lt n L) {i j : Nat} (hi : i ∈ L.flatten) (hj : nd i j = true) : j ∈ L.flatten := by
  obtain ⟨r, hr, hir⟩ := List.mem_flatten.1 hi
  obtain ⟨k, hk⟩ := List.getElem?_of_mem hr
  rcases h.needs hnd hk hir hj with h1 | h1
  · obtain ⟨r', hr', hj'⟩ := List.mem_flatten.1 h1
    exact List.mem_flatten.2 ⟨r', List.mem_of_mem_take hr', hj'⟩
  · exact List.mem_flatten.2 ⟨r, hr, h1⟩
theorem Chain.closedR (hnd : ∀ i j, nd i j = true → (i < n ∧ ch i = true) ∧ (j < n ∧ ch j = true)) {L : List (List Nat)} (h : Chain ch nd lt n L) {i j : Nat} (hi : i ∈ L.flatten) (hj : Rch nd i j) : j ∈ L.flatten := by
  induction hj with
  | one h1 => exact h.closed hnd hi h1
  | more _ h1 ih => exact h.closed hnd ih h1

/-- what the code asks of a ring -/
noncomputable def rdy (nd : Nat → Nat → Bool) (n : Nat) (L : List (List Nat)) (r : List Nat) : Bool := r.all fun i => ((List.range n).filter (nd i)).all fun j => L.flatten.contains j || same nd i j
theorem rdy_iff (hnd : ∀ i j, nd i j = true → (i < n ∧ ch i = true) ∧ (j < n ∧ ch j = true)) {L : List (List Nat)} (h : Chain ch nd lt n L) {x : Nat} (hx : x < n) (hc : ch x = true) :
    rdy nd n L (cls ch nd lt n x) = true ↔ Ready nd L x := by
  simp only [rdy, List.all_eq_true, List.mem_filter, List.mem_range, Bool.or_eq_true, List.contains_iff_mem, mem_cls, and_imp]
  constructor
  · intro h1 k hk hs
    have key : ∀ k, Rch nd x k → k ∈ L.flatten ∨ same nd x k = true := by
      intro k hk
      induction hk with
      | one h2 =>
        rename_i j
        rcases h1 x hx hc (same_refl _ _) j (hnd _ _ h2).2.1 h2 with h3 | h3
        · exact .inl h3
        · exact .inr h3
      | @more j k h2 h3 ih =>
        rcases ih with ih | ih
        · exact .inl (h.closed hnd ih h3)
        · rcases h1 j (hnd _ _ h3).1.1 (hnd _ _ h3).1.2 ih k (hnd _ _ h3).2.1 h3 with h4 | h4
          · exact .inl h4
          · exact .inr (same_trans ih h4)
    rcases key k hk with h2 | h2
    · exact h2
    · rw [hs] at h2; cases h2
  · intro h1 i hi hci hsi j hj hij
    cases hs : same nd i j
    · refine .inl (h1 j ?_ (by rw [same_left hsi]; exact hs))
      rcases same_iff.1 hsi with rfl | ⟨h7, _⟩
      · exact .one hij
      · exact .more h7 hij
    · exact .inr rfl
/-- the rings that are not told yet, in order -/
structure Rem (ch : Nat → Bool) (nd lt : Nat → Nat → Bool) (n : Nat) (L W : List (List Nat)) : Prop where
  pw : W.Pairwise fun r s => lt (hd r) (hd s) = true
  mem : ∀ r, r ∈ W ↔ ∃ i, i < n ∧ ch i = true ∧ i ∉ L.flatten ∧ r = cls ch nd lt n i
theorem Rem.next (hO : Ord lt) (hnd : ∀ i j, nd i j = true → (i < n ∧ ch i = true) ∧ (j < n ∧ ch j = true)) {L W : List (List Nat)} (hc : Chain ch nd lt n L) (h : Rem ch nd lt n L W) {k : Nat} {r : List Nat} (hr : W[k]? = some r)
    (h1 : rdy nd n L r = true) (h0 : ∀ (j : Nat) (s : List Nat), j < k → W[j]? = some s → rdy nd n L s = false) : Next ch nd lt n L r ∧ Rem ch nd lt n (L ++ [r]) (W.eraseIdx k) := by
  obtain ⟨i, hi, hci, hiL, rfl⟩ := (h.mem r).1 (List.mem_of_getElem? hr)
  have hiR := (rdy_iff hnd hc hi hci).1 h1
  have hkl : k < W.length := (List.getElem?_eq_some_iff.1 hr).1
  refine ⟨⟨i, ⟨hi, hci, hiL, hiR⟩, rfl, fun j hj => ?_⟩, ⟨h.pw.sublist (List.eraseIdx_sublist W k), fun s => ?_⟩⟩
  · obtain ⟨m, hm⟩ := List.getElem?_of_mem ((h.mem _).2 ⟨j, hj.1, hj.2.1, hj.2.2.1, rfl⟩)
    have hml : m < W.length := (List.getElem?_eq_some_iff.1 hm).1
    rcases Nat.lt_trichotomy m k with hlt | rfl | hgt
    · have := h0 m _ hlt hm
      rw [(rdy_iff hnd hc hj.1 hj.2.1).2 hj.2.2.2] at this; cases this
    · rw [hr] at hm
      rw [Option.some.inj hm]; exact hO.irrefl _
    · have := List.pairwise_iff_getElem.1 h.pw k m hkl hml hgt
      rw [(List.getElem?_eq_some_iff.1 hm).2, (List.getElem?_eq_some_iff.1 hr).2] at this
      exact hO.asymm this
  · rw [List.mem_eraseIdx_iff_getElem?]
    constructor
    · rintro ⟨m, hmk, hm⟩
      obtain ⟨j, hj, hcj, hjL, rfl⟩ := (h.mem s).1 (List.mem_of_getElem? hm)
      refine ⟨j, hj, hcj, fun hf => ?_, rfl⟩
      rcases mem_flatten_snoc.1 hf with hf | hf
      · exact hjL hf
      · have e := cls_same (ch := ch) (lt := lt) (m := n) (mem_cls.1 hf).2.2
        have hml : m < W.length := (List.getElem?_eq_some_iff.1 hm).1
        have hpw := List.pairwise_iff_getElem.1 h.pw
        rcases Nat.lt_or_gt_of_ne hmk with hlt | hgt
        · have := hpw m k hml hkl hlt
          rw [(List.getElem?_eq_some_iff.1 hm).2, (List.getElem?_eq_some_iff.1 hr).2, e, hO.irrefl] at this; cases this
        · have := hpw k m hkl hml hgt
          rw [(List.getElem?_eq_some_iff.1 hm).2, (List.getElem?_eq_some_iff.1 hr).2, e, hO.irrefl] at this; cases this
    · rintro ⟨j, hj, hcj, hjL, rfl⟩
      obtain ⟨m, hm⟩ := List.getElem?_of_mem ((h.mem _).2 ⟨j, hj, hcj, fun hf => hjL (mem_flatten_snoc.2 (.inl hf)), rfl⟩)
      refine ⟨m, fun e => ?_, hm⟩
      subst e
      rw [hr] at hm
      have e1 : cls ch nd lt n i = cls ch nd lt n j := Option.some.inj hm
      exact hjL (mem_flatten_snoc.2 (.inr (e1 ▸ mem_cls.2 ⟨hj, hcj, same_refl _ _⟩)))
theorem Rem.done (hnd : ∀ i j, nd i j = true → (i < n ∧ ch i = true) ∧ (j < n ∧ ch j = true)) {L W : List (List Nat)} (hc : Chain ch nd lt n L) (h : Rem ch nd lt n L W) (h0 : ∀ s ∈ W, rdy nd n L s = false) : Done ch nd n L := by
  intro i hi
  have := h0 _ ((h.mem _).2 ⟨i, hi.1, hi.2.1, hi.2.2.1, rfl⟩)
  rw [(rdy_iff hnd hc hi.1 hi.2.1).2 hi.2.2.2] at this; cases this

/-! ### it never stands still -/
noncomputable def cnt (nd : Nat → Nat → Bool) (n i : Nat) : Nat := ((List.range n).filter fun k => k == i || rb nd i k).length
theorem cnt_lt {i k : Nat} (hi : i < n) (h : Rch nd i k) (hs : same nd i k = false) : cnt nd n k < cnt nd n i := by
  have hki : ¬ (i = k ∨ Rch nd i k ∧ Rch nd k i) := fun h => by rw [same_iff.2 h] at hs; cases hs
  have hik : i ≠ k := fun e => hki (.inl e)
  have hnr : ¬ Rch nd k i := fun e => hki (.inr ⟨h, e⟩)
  unfold cnt
  have hsub : ∀ l : List Nat, (l.filter fun x => x == k || rb nd k x).length ≤ (l.filter fun x => x == i || rb nd i x).length ∧ (i ∈ l → (l.filter fun x => x == k || rb nd k x).length < (l.filter fun x => x == i || rb nd i x).length) := by
    intro l
    induction l with
    | nil => simp
    | cons y t ih =>
      have himp : (y == k || rb nd k y) = true → (y == i || rb nd i y) = true := by
        intro h1
        simp only [Bool.or_eq_true, beq_iff_eq, rb_iff] at *
        rcases h1 with rfl | h1
        · exact .inr h
        · exact .inr (h.trans h1)
      have hi0 : (i == k || rb nd k i) = false := by
        cases h2 : (i == k || rb nd k i)
        · rfl
        · simp only [Bool.or_eq_true, beq_iff_eq, rb_iff] at h2
          rcases h2 with h2 | h2
          · exact absurd h2 hik
          · exact absurd h2 hnr
      have hi1 : (i == i || rb nd i i) = true := by simp
      simp only [List.filter_cons]
      constructor
      · cases h1 : (y == k || rb nd k y)
        · have := ih.1
          cases h2 : (y == i || rb nd i y)
          · simpa using this
          · simp; omega
        · rw [himp h1]; have := ih.1; simp; omega
      · intro hm
        rcases List.mem_cons.1 hm with rfl | hm
        · rw [hi0, hi1]; have := ih.1; simp; omega
        · have := ih.2 hm
          cases h1 : (y == k || rb nd k y)
          · cases h2 : (y == i || rb nd i y)
            · simpa using this
            · simp; omega
          · rw [himp h1]; simp; omega
  exact (hsub _).2 (List.mem_range.2 hi)
theorem all_told (hnd : ∀ i j, nd i j = true → (i < n ∧ ch i = true) ∧ (j < n ∧ ch j = true)) {L : List (List Nat)} (hd : Done ch nd n L) : ∀ i, i < n → ch i = true → i ∈ L.flatten := by
  have key : ∀ (c i : Nat), cnt nd n i ≤ c → i < n → ch i = true → i ∈ L.flatten := by
    intro c
    induction c with
    | zero =>
      intro i hc hi
      exfalso
      have : 0 < cnt nd n i := List.length_pos_of_mem (List.mem_filter.2 ⟨List.mem_range.2 hi, by simp⟩)
      omega
    | succ c ih =>
      intro i hc hi hci
      refine Classical.byContradiction fun hn => hd i ⟨hi, hci, hn, fun k hk hs => ?_⟩
      have hk2 : k < n ∧ ch k = true := (Rch.ends (P := fun _ => True) (Q := fun j => j < n ∧ ch j = true) (fun a b h => ⟨trivial, (hnd a b h).2⟩) hk).2
      have := cnt_lt (n := n) hi hk hs
      exact ih k (by omega) hk2.1 hk2.2
  exact fun i => key _ i (Nat.le_refl _)
end
end O
end Go.Proofs.YtnmcajinaigcjaaGreatDoor
namespace Go.Proofs.YtnmcajinaigcjaaGreatDoor
namespace O
section
variable {ch : Nat → Bool} {nd lt : Nat → Nat → Bool}
theorem ex_rch (hnd : ∀ i j, nd i j = true ↔ (i = 0 ∧ j = 1) ∨ (i = 1 ∧ j = 2) ∨ (i = 2 ∧ j = 1)) {i j : Nat} : Rch nd i j ↔ i ≤ 2 ∧ (j = 1 ∨ j = 2) := by
  have h01 : nd 0 1 = true := (hnd 0 1).2 (.inl ⟨rfl, rfl⟩)
  have h12 : nd 1 2 = true := (hnd 1 2).2 (.inr (.inl ⟨rfl, rfl⟩))
  have h21 : nd 2 1 = true := (hnd 2 1).2 (.inr (.inr ⟨rfl, rfl⟩))
  constructor
  · intro h
    refine Rch.ends (P := fun i => i ≤ 2) (Q := fun j => j = 1 ∨ j = 2) (fun i j h => ?_) h
    have := (hnd i j).1 h; omega
  · rintro ⟨h1, h2⟩
    obtain rfl | rfl | rfl : i = 0 ∨ i = 1 ∨ i = 2 := by omega
    · rcases h2 with rfl | rfl
      · exact .one h01
      · exact .more (.one h01) h12
    · rcases h2 with rfl | rfl
      · exact .more (.one h12) h21
      · exact .one h12
    · rcases h2 with rfl | rfl
      · exact .one h21
      · exact .more (.one h21) h12
theorem ex_same (hnd : ∀ i j, nd i j = true ↔ (i = 0 ∧ j = 1) ∨ (i = 1 ∧ j = 2) ∨ (i = 2 ∧ j = 1)) {i j : Nat} : same nd i j = true ↔ i = j ∨ ((i = 1 ∨ i = 2) ∧ (j = 1 ∨ j = 2)) := by
  rw [same_iff, ex_rch hnd, ex_rch hnd]; omega
theorem ex_sameF (hnd : ∀ i j, nd i j = true ↔ (i = 0 ∧ j = 1) ∨ (i = 1 ∧ j = 2) ∨ (i = 2 ∧ j = 1)) {i j : Nat} (h : ¬ (i = j ∨ ((i = 1 ∨ i = 2) ∧ (j = 1 ∨ j = 2)))) : same nd i j = false := by
  cases e : same nd i j
  · rfl
  · exact absurd ((ex_same hnd).1 e) h
theorem ex_order (hO : Ord lt) (hch : ∀ i, i < 3 → ch i = true) (hnd : ∀ i j, nd i j = true ↔ (i = 0 ∧ j = 1) ∨ (i = 1 ∧ j = 2) ∨ (i = 2 ∧ j = 1)) (hlt : lt 1 2 = true) : Chain ch nd lt 3 [[1, 2], [0]] ∧ Done ch nd 3 [[1, 2], [0]] := by
  have s10 : same nd 1 0 = false := ex_sameF hnd (by omega)
  have s11 : same nd 1 1 = true := same_refl _ _
  have s12 : same nd 1 2 = true := (ex_same hnd).2 (by omega)
  have s00 : same nd 0 0 = true := same_refl _ _
  have s01 : same nd 0 1 = false := ex_sameF hnd (by omega)
  have s02 : same nd 0 2 = false := ex_sameF hnd (by omega)
  have c0 := hch 0 (by omega)
  have c1 := hch 1 (by omega)
  have c2 := hch 2 (by omega)
  have hr : List.range 3 = [0, 1, 2] := rfl
  have e1 : cls ch nd lt 3 1 = [1, 2] := by
    unfold cls
    rw [hr]
    simp only [List.filter, c0, c1, c2, s10, s11, s12, Bool.and_true, Bool.and_false]
    exact srt_eq hO (List.Perm.refl _) (by simp [hO.asymm hlt])
  have e0 : cls ch nd lt 3 0 = [0] := by
    unfold cls
    rw [hr]
    simp only [List.filter, c0, c1, c2, s00, s01, s02, Bool.and_true, Bool.and_false]
    exact srt_one _ _
  have e2 : cls ch nd lt 3 2 = [1, 2] := by rw [← e1]; exact (cls_same s12).symm
  have n1 : Next ch nd lt 3 [] [1, 2] := by
    refine ⟨1, ⟨by omega, c1, by simp, fun k hk hs => ?_⟩, e1.symm, fun j hj => ?_⟩
    · have := ((ex_rch hnd).1 hk).2
      rw [(ex_same hnd).2 (by omega)] at hs; cases hs
    · obtain ⟨h1, _, _, h2⟩ := hj
      obtain rfl | rfl | rfl : j = 0 ∨ j = 1 ∨ j = 2 := by omega
      · have := h2 1 ((ex_rch hnd).2 (by omega)) s01; simp at this
      · exact hO.irrefl _
      · rw [e1, e2]; exact hO.irrefl _
  have n2 : Next ch nd lt 3 ([] ++ [[1, 2]]) [0] := by
    refine ⟨0, ⟨by omega, c0, by simp, fun k hk _ => ?_⟩, e0.symm, fun j hj => ?_⟩
    · have := ((ex_rch hnd).1 hk).2; simpa using this
    · obtain ⟨h1, _, h3, _⟩ := hj
      obtain rfl | rfl | rfl : j = 0 ∨ j = 1 ∨ j = 2 := by omega
      · exact hO.irrefl _
      · simp at h3
      · simp at h3
  refine ⟨.snoc (.snoc .nil n1) n2, fun i hi => ?_⟩
  obtain ⟨h1, _, h3, _⟩ := hi
  simp at h3; omega
/-- where nothing is needed -/
theorem bare_same (h0 : ∀ i j, nd i j = false) {i j : Nat} : same nd i j = true ↔ i = j := by
  rw [same_iff]
  refine ⟨fun h => ?_, .inl⟩
  rcases h with h | ⟨h, _⟩
  · exact h
  · have := Rch.ends (P := fun _ => False) (Q := fun _ => False) (fun i j h => by rw [h0] at h; cases h) h
    exact this.1.elim
theorem bare_cls (h0 : ∀ i j, nd i j = false) {n i : Nat} (hi : i < n) (hc : ch i = true) : cls ch nd lt n i = [i] := by
  have h1 : ∀ k, k ∈ cls ch nd lt n i ↔ k = i := fun k => by
    rw [mem_cls, bare_same h0]
    constructor
    · rintro ⟨_, _, h⟩; exact h.symm
    · rintro rfl; exact ⟨hi, hc, rfl⟩
  have h2 := cls_nodup (ch := ch) (nd := nd) (lt := lt) n i
  revert h1 h2
  generalize cls ch nd lt n i = l
  intro h1 h2
  match l, h1, h2 with
  | [], h1, _ => exact absurd ((h1 i).2 rfl) (by simp)
  | [x], h1, _ => rw [(h1 x).1 (by simp)]
  | x :: y :: t, h1, h2 =>
    have e1 := (h1 x).1 (by simp)
    have e2 := (h1 y).1 (by simp)
    subst e1; subst e2
    simp at h2
theorem bare_chain (hO : Ord lt) (h0 : ∀ i j, nd i j = false) {n : Nat} {L : List (List Nat)} (h : Chain ch nd lt n L) : L = L.flatten.map (fun i => [i]) ∧ L.flatten.Pairwise (fun i j => lt i j = true) := by
  have hin := fun (L : List (List Nat)) (h : Chain ch nd lt n L) => h.told
  induction h with
  | nil => exact ⟨rfl, List.Pairwise.nil⟩
  | @snoc L r hc hn ih =>
    obtain ⟨i, hi, rfl, hmin⟩ := hn
    have ei := bare_cls (lt := lt) h0 hi.1 hi.2.1
    refine ⟨?_, ?_⟩
    · rw [ei]; simp only [List.flatten_append, List.flatten_cons, List.flatten_nil, List.append_nil, List.map_append, List.map_cons, List.map_nil]; rw [← ih.1]
    · rw [ei]; simp only [List.flatten_append, List.flatten_cons, List.flatten_nil, List.append_nil]
      refine List.pairwise_append.2 ⟨ih.2, by simp, fun x hx y hy => ?_⟩
      simp at hy; subst hy
      obtain ⟨q, hq, hxq⟩ := List.mem_flatten.1 hx
      obtain ⟨p, hp⟩ := List.getElem?_of_mem hq
      obtain ⟨j, hj, rfl, hj2⟩ := hc.nth hp
      have ej := bare_cls (lt := lt) h0 hj.1 hj.2.1
      rw [ej] at hxq
      simp at hxq; subst hxq
      have hcy : Cand ch nd n (L.take p) y := by
        refine ⟨hi.1, hi.2.1, fun hf => hi.2.2.1 ?_, fun k hk _ => ?_⟩
        · obtain ⟨r', h1, h2⟩ := List.mem_flatten.1 hf
          exact List.mem_flatten.2 ⟨r', List.mem_of_mem_take h1, h2⟩
        · have := Rch.ends (P := fun _ => False) (Q := fun _ => False) (fun i j h => by rw [h0] at h; cases h) hk
          exact this.1.elim
      have h3 := hj2 y hcy
      rw [ei, ej] at h3
      cases h4 : lt x y
      · have e := hO.total h4 h3
        subst e
        exact absurd hx hi.2.2.1
      · rfl
/-- who is listed: the chosen -/
theorem listed_perm {n : Nat} (hnd : ∀ i j, nd i j = true → (i < n ∧ ch i = true) ∧ (j < n ∧ ch j = true)) {L : List (List Nat)} (h : Chain ch nd lt n L) (hd : Done ch nd n L) : L.flatten.Perm ((List.range n).filter ch) := by
  obtain ⟨h1, _, h3, _⟩ := h.told
  refine (List.perm_ext_iff_of_nodup h3 (List.nodup_range.filter _)).2 fun x => ?_
  rw [List.mem_filter, List.mem_range]
  exact ⟨fun hx => h1 x hx, fun hx => all_told hnd hd x hx.1 hx.2⟩
end
end O
end Go.Proofs.YtnmcajinaigcjaaGreatDoor
namespace Go.Proofs.YtnmcajinaigcjaaGreatDoor
namespace O
/-- how many are not reached yet -/
def offs (m : List Bool) : Nat := m.countP (! ·)
theorem offs_le (m : List Bool) : offs m ≤ m.length := List.countP_le_length
theorem offs_set : ∀ (m : List Bool) (k : Nat), m[k]? = some false → offs (m.set k true) + 1 = offs m
  | [], k, h => by simp at h
  | x :: m, 0, h => by simp at h; subst h; simp [offs]
  | x :: m, k + 1, h => by
    have := offs_set m k (by simpa using h)
    simp only [offs, List.set_cons_succ, List.countP_cons] at *
    omega
/-- the search from i: m is reached, q still open -/
structure Srch (nd : Nat → Nat → Bool) (i : Nat) (m : List Bool) (q : List Nat) : Prop where
  sound : ∀ j, m[j]? = some true → Rch nd i j
  opn : ∀ j ∈ q, j = i ∨ m[j]? = some true
  full : ∀ j, (j = i ∨ m[j]? = some true) → j ∈ q ∨ ∀ k, nd j k = true → m[k]? = some true
/-- .. while the needs of one are gone through: t of them are done -/
structure SrchIn (nd : Nat → Nat → Bool) (i : Nat) (m : List Bool) (q : List Nat) (last : Nat) (t : List Nat) : Prop where
  sound : ∀ j, m[j]? = some true → Rch nd i j
  opn : ∀ j ∈ q, j = i ∨ m[j]? = some true
  lst : last = i ∨ m[last]? = some true
  full : ∀ j, (j = i ∨ m[j]? = some true) → j ∈ q ∨ (j = last ∧ ∀ k ∈ t, m[k]? = some true) ∨ ∀ k, nd j k = true → m[k]? = some true
theorem Srch.start (nd : Nat → Nat → Bool) (i n : Nat) : Srch nd i (List.replicate n false) [i] := by
  have h0 : ∀ j, (List.replicate n false)[j]? ≠ some true := fun j h => by
    rw [List.getElem?_replicate] at h; split at h <;> cases h
  refine ⟨fun j h => absurd h (h0 j), fun j hj => .inl (by simpa using hj), fun j hj => ?_⟩
  rcases hj with rfl | hj
  · exact .inl (by simp)
  · exact absurd hj (h0 j)
theorem Srch.pop {nd : Nat → Nat → Bool} {i : Nat} {m : List Bool} {q : List Nat} {last : Nat} (h : Srch nd i m (q ++ [last])) : SrchIn nd i m q last [] := by
  refine ⟨h.sound, fun j hj => h.opn j (by simp [hj]), h.opn last (by simp), fun j hj => ?_⟩
  rcases h.full j hj with h1 | h1
  · rcases List.mem_append.1 h1 with h2 | h2
    · exact .inl h2
    · exact .inr (.inl ⟨by simpa using h2, fun k hk => by simp at hk⟩)
  · exact .inr (.inr h1)
theorem SrchIn.skip {nd : Nat → Nat → Bool} {i : Nat} {m : List Bool} {q : List Nat} {last k : Nat} {t : List Nat} (h : SrchIn nd i m q last t) (hk : m[k]? = some true) : SrchIn nd i m q last (t ++ [k]) := by
  refine ⟨h.sound, h.opn, h.lst, fun j hj => ?_⟩
  rcases h.full j hj with h1 | ⟨h1, h2⟩ | h1
  · exact .inl h1
  · refine .inr (.inl ⟨h1, fun k' hk' => ?_⟩)
    rcases List.mem_append.1 hk' with h3 | h3
    · exact h2 k' h3
    · simp at h3; subst h3; exact hk
  · exact .inr (.inr h1)
theorem get_set {m : List Bool} {k j : Nat} (hk : k < m.length) : (m.set k true)[j]? = some true ↔ j = k ∨ m[j]? = some true := by
  rw [List.getElem?_set]
  by_cases h : k = j
  · subst h; simp [hk]
  · rw [if_neg h]; constructor
    · exact .inr
    · rintro (h1 | h1)
      · exact absurd h1.symm h
      · exact h1
theorem SrchIn.push {nd : Nat → Nat → Bool} {i : Nat} {m : List Bool} {q : List Nat} {last k : Nat} {t : List Nat} (h : SrchIn nd i m q last t) (hk : k < m.length) (hn : nd last k = true) : SrchIn nd i (m.set k true) (q ++ [k]) last (t ++ [k]) := by
  have key : ∀ j, m[j]? = some true → (m.set k true)[j]? = some true := fun j hj => (get_set hk).2 (.inr hj)
  refine ⟨fun j hj => ?_, fun j hj => ?_, h.lst.imp id (key _), fun j hj => ?_⟩
  · rcases (get_set hk).1 hj with rfl | h1
    · rcases h.lst with rfl | h2
      · exact .one hn
      · exact .more (h.sound _ h2) hn
    · exact h.sound j h1
  · rcases List.mem_append.1 hj with h1 | h1
    · exact (h.opn j h1).imp id (key _)
    · simp at h1; subst h1; exact .inr ((get_set hk).2 (.inl rfl))
  · have hj' : j = k ∨ (j = i ∨ m[j]? = some true) := by
      rcases hj with h1 | h1
      · exact .inr (.inl h1)
      · rcases (get_set hk).1 h1 with h2 | h2
        · exact .inl h2
        · exact .inr (.inr h2)
    rcases hj' with rfl | hj'
    · exact .inl (by simp)
    · rcases h.full j hj' with h1 | ⟨h1, h2⟩ | h1
      · exact .inl (by simp [h1])
      · refine .inr (.inl ⟨h1, fun k' hk' => ?_⟩)
        rcases List.mem_append.1 hk' with h3 | h3
        · exact key _ (h2 k' h3)
        · simp at h3; subst h3; exact (get_set hk).2 (.inl rfl)
      · exact .inr (.inr fun k' hk' => key _ (h1 k' hk'))
theorem SrchIn.close {nd : Nat → Nat → Bool} {i : Nat} {m : List Bool} {q : List Nat} {last : Nat} {t : List Nat} (h : SrchIn nd i m q last t) (ht : ∀ k, nd last k = true → k ∈ t) : Srch nd i m q := by
  refine ⟨h.sound, h.opn, fun j hj => ?_⟩
  rcases h.full j hj with h1 | ⟨h1, h2⟩ | h1
  · exact .inl h1
  · subst h1; exact .inr fun k hk => h2 k (ht k hk)
  · exact .inr h1
theorem Srch.done {nd : Nat → Nat → Bool} {i : Nat} {m : List Bool} (h : Srch nd i m []) {j : Nat} {b : Bool} (hj : m[j]? = some b) : b = rb nd i j := by
  have key : ∀ j, Rch nd i j → m[j]? = some true := by
    intro j hr
    induction hr with
    | one h1 =>
      rcases h.full i (.inl rfl) with h2 | h2
      · simp at h2
      · exact h2 _ h1
    | more _ h1 ih =>
      rcases h.full _ (.inr ih) with h2 | h2
      · simp at h2
      · exact h2 _ h1
  rw [Bool.eq_iff_iff, rb_iff]
  constructor
  · rintro rfl; exact h.sound j hj
  · intro hr; rw [key j hr] at hj; exact (Option.some.inj hj).symm
end O
end Go.Proofs.YtnmcajinaigcjaaGreatDoor
namespace Go.Proofs.YtnmcajinaigcjaaGreatDoor
namespace O
/-- a place itself, or one that it comes to -/
noncomputable def comes (nd : Nat → Nat → Bool) (i j : Nat) : Bool := i == j || rb nd i j
theorem comes_iff {nd : Nat → Nat → Bool} {i j : Nat} : comes nd i j = true ↔ i = j ∨ Rch nd i j := by simp [comes, rb_iff]
theorem comes_refl (nd : Nat → Nat → Bool) (i : Nat) : comes nd i i = true := by simp [comes]
theorem comes_trans {nd : Nat → Nat → Bool} {i j k : Nat} (h : comes nd i j = true) (h' : comes nd j k = true) : comes nd i k = true := by
  rw [comes_iff] at *
  rcases h with rfl | h
  · exact h'
  · rcases h' with rfl | h'
    · exact .inr h
    · exact .inr (h.trans h')
theorem same_comes (nd : Nat → Nat → Bool) (i j : Nat) : same nd i j = (comes nd i j && comes nd j i) := by
  rw [Bool.eq_iff_iff, Bool.and_eq_true, comes_iff, comes_iff, same_iff]
  constructor
  · rintro (rfl | ⟨h1, h2⟩)
    · exact ⟨.inl rfl, .inl rfl⟩
    · exact ⟨.inr h1, .inr h2⟩
  · rintro ⟨rfl | h1, h2⟩
    · exact .inl rfl
    · rcases h2 with rfl | h2
      · exact .inl rfl
      · exact .inr ⟨h1, h2⟩
/-- by way of the first k places -/
def via (nd : Nat → Nat → Bool) : Nat → Nat → Nat → Prop
  | 0, i, j => i = j ∨ nd i j = true
  | k + 1, i, j => via nd k i j ∨ via nd k i k ∧ via nd k k j
theorem via_mono {nd : Nat → Nat → Bool} {k : Nat} : ∀ {k' i j : Nat}, k ≤ k' → via nd k i j → via nd k' i j := by
  intro k' i j h
  induction h with
  | refl => exact id
  | step _ ih => exact fun h => .inl (ih h)
theorem via_join {nd : Nat → Nat → Bool} : ∀ (k : Nat) {i m j : Nat}, m < k → via nd k i m → via nd k m j → via nd k i j
  | 0, _, _, _, h, _, _ => by omega
  | k + 1, i, m, j, hm, h1, h2 => by
    by_cases e : m = k
    · subst e
      refine .inr ⟨?_, ?_⟩
      · rcases h1 with h | h
        · exact h
        · exact h.1
      · rcases h2 with h | h
        · exact h
        · exact h.2
    · have hk : m < k := by omega
      rcases h1 with a | ⟨b, b'⟩
      · rcases h2 with c | ⟨d, d'⟩
        · exact .inl (via_join k hk a c)
        · exact .inr ⟨via_join k hk a d, d'⟩
      · rcases h2 with c | ⟨d, d'⟩
        · exact .inr ⟨b, via_join k hk b' c⟩
        · exact .inr ⟨b, d'⟩
theorem via_rch {nd : Nat → Nat → Bool} : ∀ (k : Nat) {i j : Nat}, via nd k i j → comes nd i j = true
  | 0, i, j, h => by
    rw [comes_iff]
    rcases h with rfl | h
    · exact .inl rfl
    · exact .inr (.one h)
  | k + 1, i, j, h => by
    rcases h with h | ⟨h1, h2⟩
    · exact via_rch k h
    · exact comes_trans (via_rch k h1) (via_rch k h2)
theorem via_all {nd : Nat → Nat → Bool} {n : Nat} (hnd : ∀ i j, nd i j = true → j < n) {i j : Nat} (h : comes nd i j = true) : via nd n i j := by
  rcases comes_iff.1 h with rfl | h
  · exact via_mono (Nat.zero_le _) (.inl rfl : via nd 0 i i)
  · induction h with
    | one h1 => exact via_mono (Nat.zero_le _) (.inr h1 : via nd 0 _ _)
    | @more j k h1 h2 ih =>
      have hj : j < n := (Rch.ends (P := fun _ => True) (Q := fun j => j < n) (fun a b h => ⟨trivial, hnd a b h⟩) h1).2
      exact via_join n hj (ih (comes_iff.2 (.inr h1))) (via_mono (Nat.zero_le _) (.inr h2 : via nd 0 _ _))
/-- the table while stage k goes on: rows before i, and of row i what stands before j, are done -/
structure Tab (nd : Nat → Nat → Bool) (n k i j : Nat) (c : Nat → Nat → Bool) : Prop where
  sound : ∀ a b, a < n → b < n → c a b = true → comes nd a b = true
  old : ∀ a b, a < n → b < n → via nd k a b → c a b = true
  new : ∀ a b, a < n → b < n → (a < i ∨ a = i ∧ b < j) → via nd (k + 1) a b → c a b = true
def upd (c : Nat → Nat → Bool) (i j : Nat) (v : Bool) : Nat → Nat → Bool := fun a b => if a = i ∧ b = j then v else c a b
theorem Tab.step {nd : Nat → Nat → Bool} {n k i j : Nat} {c : Nat → Nat → Bool} (h : Tab nd n k i j c) (hk : k < n) (hi : i < n) (hj : j < n) : Tab nd n k i (j + 1) (upd c i j (c i j || c i k && c k j)) := by
  have key : ∀ a b, c a b = true → upd c i j (c i j || c i k && c k j) a b = true := by
    intro a b hc
    unfold upd; split
    · rename_i he; obtain ⟨rfl, rfl⟩ := he; rw [hc]; rfl
    · exact hc
  refine ⟨fun a b ha hb hc => ?_, fun a b ha hb hv => key a b (h.old a b ha hb hv), fun a b ha hb hab hv => ?_⟩
  · unfold upd at hc; split at hc
    · rename_i he; obtain ⟨rfl, rfl⟩ := he
      rcases Bool.or_eq_true _ _ ▸ hc with h1 | h1
      · exact h.sound _ _ hi hj h1
      · have h2 := Bool.and_eq_true _ _ ▸ h1
        exact comes_trans (h.sound _ _ hi hk h2.1) (h.sound _ _ hk hj h2.2)
    · exact h.sound a b ha hb hc
  · by_cases he : a = i ∧ b = j
    · obtain ⟨rfl, rfl⟩ := he
      unfold upd; rw [if_pos ⟨rfl, rfl⟩]
      rcases hv with hv | ⟨h1, h2⟩
      · rw [h.old _ _ ha hb hv]; rfl
      · rw [h.old _ _ ha hk h1, h.old _ _ hk hb h2]; simp
    · exact key a b (h.new a b ha hb (by omega) hv)
theorem Tab.row {nd : Nat → Nat → Bool} {n k i : Nat} {c : Nat → Nat → Bool} (h : Tab nd n k i n c) : Tab nd n k (i + 1) 0 c :=
  ⟨h.sound, h.old, fun a b ha hb hab hv => h.new a b ha hb (by omega) hv⟩
theorem Tab.stage {nd : Nat → Nat → Bool} {n k j : Nat} {c : Nat → Nat → Bool} (h : Tab nd n k n j c) : Tab nd n (k + 1) 0 0 c :=
  ⟨h.sound, fun a b ha hb hv => h.new a b ha hb (by omega) hv, fun a b ha hb hab _ => by omega⟩
theorem Tab.start {nd : Nat → Nat → Bool} {n : Nat} {c : Nat → Nat → Bool} (h : ∀ a b, a < n → b < n → c a b = (a == b || nd a b)) : Tab nd n 0 0 0 c := by
  refine ⟨fun a b ha hb hc => ?_, fun a b ha hb hv => ?_, fun a b ha hb hab _ => by omega⟩
  · rw [h a b ha hb] at hc
    rw [comes_iff]
    rcases Bool.or_eq_true _ _ ▸ hc with h1 | h1
    · exact .inl (by simpa using h1)
    · exact .inr (.one h1)
  · rw [h a b ha hb]
    rcases hv with rfl | hv
    · simp
    · rw [hv]; simp
theorem Tab.done {nd : Nat → Nat → Bool} {n i j : Nat} {c : Nat → Nat → Bool} (hnd : ∀ i j, nd i j = true → j < n) (h : Tab nd n n i j c) {a b : Nat} (ha : a < n) (hb : b < n) : c a b = comes nd a b := by
  rw [Bool.eq_iff_iff]
  exact ⟨h.sound a b ha hb, fun h1 => h.old a b ha hb (via_all hnd h1)⟩
end O
end Go.Proofs.YtnmcajinaigcjaaGreatDoor
namespace Go.Proofs.YtnmcajinaigcjaaGreatDoor
namespace O
section
variable {ch : Nat → Bool} {nd lt : Nat → Nat → Bool} {n : Nat}
/-- the first of each ring -/
noncomputable def fst (ch : Nat → Bool) (nd : Nat → Nat → Bool) (k : Nat) : Bool := (List.range k).all fun j => !(ch j && same nd j k)
theorem fst_iff {k : Nat} : fst ch nd k = true ↔ ∀ j, j < k → ch j = true → same nd j k = false := by
  simp only [fst, List.all_eq_true, List.mem_range, Bool.not_eq_true']
  constructor
  · intro h j h1 h2; have := h j h1; rw [h2, Bool.true_and] at this; exact this
  · intro h j h1
    cases h2 : ch j
    · rfl
    · rw [h j h1 h2]; rfl
noncomputable def reps (ch : Nat → Bool) (nd : Nat → Nat → Bool) (i : Nat) : List Nat := (List.range i).filter fun k => ch k && fst ch nd k
noncomputable def ringsTo (ch : Nat → Bool) (nd lt : Nat → Nat → Bool) (i : Nat) : List (List Nat) := (reps ch nd i).map (cls ch nd lt i)
theorem mem_reps {i k : Nat} : k ∈ reps ch nd i ↔ k < i ∧ ch k = true ∧ ∀ j, j < k → ch j = true → same nd j k = false := by
  simp [reps, fst_iff]
theorem rep_of {i : Nat} : ∀ (c k : Nat), k ≤ c → k < i → ch k = true → ∃ x, x ∈ reps ch nd i ∧ x ≤ k ∧ same nd x k = true := by
  intro c
  induction c with
  | zero =>
    intro k hk hi hc
    exact ⟨k, mem_reps.2 ⟨hi, hc, fun j hj => by omega⟩, Nat.le_refl _, same_refl _ _⟩
  | succ c ih =>
    intro k hk hi hc
    by_cases h : ∀ j, j < k → ch j = true → same nd j k = false
    · exact ⟨k, mem_reps.2 ⟨hi, hc, h⟩, Nat.le_refl _, same_refl _ _⟩
    · have : ∃ j, j < k ∧ ch j = true ∧ same nd j k = true := by
        refine Classical.byContradiction fun hn => h fun j h1 h2 => ?_
        cases hs : same nd j k
        · rfl
        · exact absurd ⟨j, h1, h2, hs⟩ hn
      obtain ⟨j, h1, h2, h3⟩ := this
      obtain ⟨x, h4, h5, h6⟩ := ih j (by omega) (by omega) h2
      exact ⟨x, h4, by omega, same_trans h6 h3⟩
theorem reps_apart {i x y : Nat} (hx : x ∈ reps ch nd i) (hy : y ∈ reps ch nd i) (h : same nd x y = true) : x = y := by
  obtain ⟨_, x2, x3⟩ := mem_reps.1 hx
  obtain ⟨_, y2, y3⟩ := mem_reps.1 hy
  rcases Nat.lt_trichotomy x y with h1 | h1 | h1
  · have := y3 x h1 x2; rw [h] at this; cases this
  · exact h1
  · have := x3 y h1 y2; rw [same_symm h] at this; cases this
theorem reps_nodup (i : Nat) : (reps ch nd i).Nodup := List.nodup_range.filter _
theorem cls_snoc {i x : Nat} (h : (ch i && same nd x i) = false) : cls ch nd lt (i + 1) x = cls ch nd lt i x := by
  unfold cls; rw [List.range_succ, List.filter_append]; simp [h]
theorem cls_snoc' (hO : Ord lt) {i x : Nat} (h : (ch i && same nd x i) = true) : cls ch nd lt (i + 1) x = srt lt (cls ch nd lt i x ++ [i]) := by
  unfold cls; rw [List.range_succ, List.filter_append]
  refine srt_congr hO ?_
  have : List.filter (fun k => ch k && same nd x k) [i] = [i] := by simp [h]
  rw [this]
  exact List.Perm.append_right _ (srt_perm lt _).symm
theorem ringsTo_zero : ringsTo ch nd lt 0 = [] := rfl
theorem ringsTo_off {i : Nat} (h : ch i = false) : ringsTo ch nd lt (i + 1) = ringsTo ch nd lt i := by
  have e : reps ch nd (i + 1) = reps ch nd i := by unfold reps; rw [List.range_succ, List.filter_append]; simp [h]
  unfold ringsTo
  rw [e]
  exact List.map_congr_left fun x _ => cls_snoc (by rw [h]; rfl)
theorem ringsTo_at {i p : Nat} {r : List Nat} (h : (ringsTo ch nd lt i)[p]? = some r) : ∃ x, (reps ch nd i)[p]? = some x ∧ x ∈ reps ch nd i ∧ r = cls ch nd lt i x ∧ r ≠ [] ∧ ∀ k, same nd (hd r) k = same nd x k := by
  unfold ringsTo at h
  rw [List.getElem?_map] at h
  cases hx : (reps ch nd i)[p]? with
  | none => rw [hx] at h; cases h
  | some x =>
    rw [hx] at h
    cases h
    have hm := List.mem_of_getElem? hx
    obtain ⟨h1, h2, _⟩ := mem_reps.1 hm
    exact ⟨x, rfl, hm, rfl, cls_ne h1 h2, fun k => (same_left (cls_hd h1 h2).2.2 k).symm⟩
theorem ringsTo_new {i : Nat} (hc : ch i = true) (h0 : ∀ r ∈ ringsTo ch nd lt i, same nd (hd r) i = false) : ringsTo ch nd lt (i + 1) = ringsTo ch nd lt i ++ [[i]] := by
  have hx0 : ∀ x ∈ reps ch nd i, same nd x i = false := fun x hx => by
    obtain ⟨h1, h2, _⟩ := mem_reps.1 hx
    have := h0 _ (List.mem_map.2 ⟨x, hx, rfl⟩)
    rwa [← same_left (cls_hd h1 h2).2.2] at this
  have hj0 : ∀ j, j < i → ch j = true → same nd j i = false := fun j h1 h2 => by
    obtain ⟨x, h3, _, h4⟩ := rep_of (nd := nd) (i := i) j j (Nat.le_refl _) h1 h2
    cases hs : same nd j i
    · rfl
    · have := hx0 x h3; rw [same_trans h4 hs] at this; cases this
  have e : reps ch nd (i + 1) = reps ch nd i ++ [i] := by
    unfold reps; rw [List.range_succ, List.filter_append]
    have : (ch i && fst ch nd i) = true := by rw [hc, Bool.true_and, fst_iff]; exact hj0
    rw [List.filter_cons, this]; rfl
  unfold ringsTo
  rw [e, List.map_append]
  congr 1
  · exact List.map_congr_left fun x hx => cls_snoc (by rw [hx0 x hx, Bool.and_false])
  · have : (List.range (i + 1)).filter (fun k => ch k && same nd i k) = [i] := by
      rw [List.range_succ, List.filter_append]
      have e1 : (List.range i).filter (fun k => ch k && same nd i k) = [] := by
        rw [List.filter_eq_nil_iff]
        intro j hj
        cases h2 : ch j
        · simp
        · have := hj0 j (List.mem_range.1 hj) h2
          rw [same_comm] at this; simp [this]
      rw [e1]; simp [hc, same_refl]
    simp [cls, this, srt_one]
theorem ringsTo_set (hO : Ord lt) {i p : Nat} {r : List Nat} (hc : ch i = true) (hr : (ringsTo ch nd lt i)[p]? = some r) (h1 : same nd (hd r) i = true) : ringsTo ch nd lt (i + 1) = (ringsTo ch nd lt i).set p (srt lt (r ++ [i])) := by
  obtain ⟨x, hx, hxm, rfl, _, hs⟩ := ringsTo_at hr
  rw [hs] at h1
  obtain ⟨x1, x2, _⟩ := mem_reps.1 hxm
  have e : reps ch nd (i + 1) = reps ch nd i := by
    unfold reps; rw [List.range_succ, List.filter_append]
    have : (ch i && fst ch nd i) = false := by
      cases h2 : fst ch nd i
      · simp
      · rw [fst_iff] at h2; have := h2 x x1 x2; rw [h1] at this; cases this
    rw [List.filter_cons, this]; simp
  unfold ringsTo
  rw [e]
  apply List.ext_getElem?
  intro q
  rw [List.getElem?_set, List.getElem?_map]
  by_cases hq : p = q
  · subst hq
    have hl : p < ((reps ch nd i).map (cls ch nd lt i)).length := by rw [List.length_map]; exact (List.getElem?_eq_some_iff.1 hx).1
    rw [if_pos rfl, if_pos hl, hx, Option.map_some, cls_snoc' hO (by rw [hc, h1]; rfl)]
  · rw [if_neg hq, List.getElem?_map]
    cases hy : (reps ch nd i)[q]? with
    | none => rfl
    | some y =>
      rw [Option.map_some, Option.map_some, cls_snoc]
      rw [hc, Bool.true_and]
      cases h2 : same nd y i
      · rfl
      · exfalso
        have e2 := reps_apart hxm (List.mem_of_getElem? hy) (same_trans h1 (same_symm h2))
        subst e2
        have h3 := (List.getElem?_eq_some_iff.1 hx)
        have h4 := (List.getElem?_eq_some_iff.1 hy)
        exact hq ((List.getElem_inj (reps_nodup (ch := ch) (nd := nd) i) (h₀ := h3.1) (h₁ := h4.1)).1 (h3.2.trans h4.2.symm))
theorem ringsTo_length (i : Nat) : (ringsTo ch nd lt i).length ≤ i := by
  unfold ringsTo reps; rw [List.length_map]; have := List.length_filter_le (fun k => ch k && fst ch nd k) (List.range i); simpa using this
theorem ringsTo_row {i : Nat} {r : List Nat} (h : r ∈ ringsTo ch nd lt i) : r ≠ [] ∧ r.length ≤ i ∧ ∀ k ∈ r, k < i := by
  obtain ⟨x, hx, rfl⟩ := List.mem_map.1 h
  obtain ⟨x1, x2, _⟩ := mem_reps.1 hx
  refine ⟨cls_ne x1 x2, ?_, fun k hk => (mem_cls.1 hk).1⟩
  unfold cls
  rw [(srt_perm lt _).length_eq]
  have := List.length_filter_le (fun k => ch k && same nd x k) (List.range i); simpa using this
theorem ringsTo_mem {r : List Nat} : r ∈ ringsTo ch nd lt n ↔ ∃ i, i < n ∧ ch i = true ∧ r = cls ch nd lt n i := by
  constructor
  · intro h
    obtain ⟨x, hx, rfl⟩ := List.mem_map.1 h
    obtain ⟨x1, x2, _⟩ := mem_reps.1 hx
    exact ⟨x, x1, x2, rfl⟩
  · rintro ⟨i, h1, h2, rfl⟩
    obtain ⟨x, h3, _, h4⟩ := rep_of (nd := nd) (i := n) i i (Nat.le_refl _) h1 h2
    exact List.mem_map.2 ⟨x, h3, cls_same h4⟩
theorem ringsTo_heads : (ringsTo ch nd lt n).Pairwise fun r s => hd r ≠ hd s := by
  unfold ringsTo
  rw [List.pairwise_map]
  refine List.Pairwise.imp_of_mem ?_ (reps_nodup (ch := ch) (nd := nd) n)
  intro x y hx hy hne e
  obtain ⟨x1, x2, _⟩ := mem_reps.1 hx
  obtain ⟨y1, y2, _⟩ := mem_reps.1 hy
  have h1 := (cls_hd (nd := nd) (lt := lt) x1 x2).2.2
  have h2 := (cls_hd (nd := nd) (lt := lt) y1 y2).2.2
  rw [← e] at h2
  exact hne (reps_apart hx hy (same_trans h1 (same_symm h2)))
/-- the rings, sorted: all that wait -/
theorem rem_start (hO : Ord lt) {W : List (List Nat)} (hp : W.Perm (ringsTo ch nd lt n)) (hs : W.Pairwise fun r s => lt (hd s) (hd r) = false) : Rem ch nd lt n [] W := by
  refine ⟨?_, fun r => ?_⟩
  · have hne : W.Pairwise fun r s => hd r ≠ hd s := (hp.pairwise_iff (fun h => Ne.symm h)).2 ringsTo_heads
    refine (hs.and hne).imp fun {r s} h => ?_
    cases h1 : lt (hd r) (hd s)
    · exact absurd (hO.total h1 h.1) h.2
    · rfl
  · rw [hp.mem_iff, ringsTo_mem]; simp
end
end O
end Go.Proofs.YtnmcajinaigcjaaGreatDoor
namespace Go.Proofs.YtnmcajinaigcjaaGreatDoor
namespace O
section
variable {ch : Nat → Bool} {nd lt : Nat → Nat → Bool} {n : Nat}
/-- before how many it stands -/
def spot (lt : Nat → Nat → Bool) (l : List Nat) (k : Nat) : Nat := (l.takeWhile fun x => lt x k).length
theorem spot_le (lt : Nat → Nat → Bool) (l : List Nat) (k : Nat) : spot lt l k ≤ l.length := (List.takeWhile_sublist _).length_le
theorem spot_take (lt : Nat → Nat → Bool) (l : List Nat) (k : Nat) : ∀ x ∈ l.take (spot lt l k), lt x k = true := by
  unfold spot
  induction l with
  | nil => simp
  | cons y t ih =>
    rw [List.takeWhile_cons]
    split
    · rename_i h
      intro x hx
      simp at hx
      rcases hx with rfl | hx
      · exact h
      · exact ih x hx
    · simp
theorem spot_next {l : List Nat} {k y : Nat} (h : l[spot lt l k]? = some y) : lt y k = false := by
  unfold spot at h
  induction l with
  | nil => simp at h
  | cons z t ih =>
    rw [List.takeWhile_cons] at h
    split at h
    · exact ih (by simpa using h)
    · rename_i h1; simp at h; subst h; simpa using h1
/-- where the search for the spot stands -/
theorem spot_at {l : List Nat} {k j : Nat} (hj : j ≤ l.length) (h : ∀ x ∈ l.take j, lt x k = true) (h' : ∀ y, l[j]? = some y → lt y k = false) : spot lt l k = j := by
  unfold spot
  induction l generalizing j with
  | nil => simp at hj ⊢; omega
  | cons z t ih =>
    cases j with
    | zero => have := h' z (by simp); rw [List.takeWhile_cons, this]; simp
    | succ j =>
      have h1 := h z (by simp)
      rw [List.takeWhile_cons, h1]
      simp only [if_true, List.length_cons]
      rw [ih (by simpa using hj) (fun x hx => h x (by simp [hx])) (fun y hy => h' y (by simpa using hy))]
theorem srt_insert (hO : Ord lt) {l : List Nat} (hs : l.Pairwise fun x y => lt y x = false) (k : Nat) : srt lt (l ++ [k]) = l.take (spot lt l k) ++ k :: l.drop (spot lt l k) := by
  refine srt_eq hO ?_ ?_
  · have h1 : (l ++ [k]).Perm (k :: l) := List.perm_append_comm
    refine h1.trans ?_
    have h2 : (l.take (spot lt l k) ++ k :: l.drop (spot lt l k)).Perm (k :: (l.take (spot lt l k) ++ l.drop (spot lt l k))) := List.perm_middle
    rw [List.take_append_drop] at h2
    exact h2.symm
  · rw [List.pairwise_append]
    refine ⟨hs.sublist (List.take_sublist _ _), ?_, fun x hx y hy => ?_⟩
    · rw [List.pairwise_cons]
      refine ⟨fun y hy => ?_, hs.sublist (List.drop_sublist _ _)⟩
      cases hd0 : l[spot lt l k]? with
      | none => rw [List.drop_eq_nil_of_le (by simpa using hd0)] at hy; simp at hy
      | some z =>
        have hz := spot_next hd0
        have hlt : spot lt l k < l.length := (List.getElem?_eq_some_iff.1 hd0).1
        rw [List.drop_eq_getElem_cons hlt, (List.getElem?_eq_some_iff.1 hd0).2] at hy
        rcases List.mem_cons.1 hy with rfl | hy
        · exact hz
        · have hp := hs.sublist (List.drop_sublist (spot lt l k) l)
          rw [List.drop_eq_getElem_cons hlt, (List.getElem?_eq_some_iff.1 hd0).2] at hp
          have h1 := (List.pairwise_cons.1 hp).1 y hy
          cases h2 : lt y k
          · rfl
          · cases h3 : lt k z
            · have := hO.total h3 hz; subst this; rw [h1] at h2; cases h2
            · have := hO.trans h2 h3; rw [h1] at this; cases this
    · have h1 := spot_take lt l k x hx
      rcases List.mem_cons.1 hy with rfl | hy
      · exact hO.asymm h1
      · have hp := hs
        rw [← List.take_append_drop (spot lt l k) l, List.pairwise_append] at hp
        exact hp.2.2 x hx y hy
theorem cls_pw (hO : Ord lt) (m x : Nat) : (cls ch nd lt m x).Pairwise fun x y => lt y x = false := srt_pw hO _
theorem cls_insert (hO : Ord lt) {i x : Nat} (h : (ch i && same nd x i) = true) : cls ch nd lt (i + 1) x = (cls ch nd lt i x).take (spot lt (cls ch nd lt i x) i) ++ i :: (cls ch nd lt i x).drop (spot lt (cls ch nd lt i x) i) := by
  rw [cls_snoc' hO h, srt_insert hO (cls_pw hO i x)]
theorem cls_zero (x : Nat) : cls ch nd lt 0 x = [] := by simp [cls, srt]
theorem cls_length (m x : Nat) : (cls ch nd lt m x).length ≤ m := by
  unfold cls
  rw [(srt_perm lt _).length_eq]
  have := List.length_filter_le (fun k => ch k && same nd x k) (List.range m); simpa using this
/-- is all told that the place comes to and that doesn't come to it: of the first k -/
noncomputable def rdyTo (ch : Nat → Bool) (nd : Nat → Nat → Bool) (T : List Bool) (i k : Nat) : Bool := (List.range k).all fun j => !(comes nd i j && ch j) || comes nd j i || T.getD j false
theorem rdyTo_succ (T : List Bool) (i k : Nat) : rdyTo ch nd T i (k + 1) = (rdyTo ch nd T i k && (!(comes nd i k && ch k) || comes nd k i || T.getD k false)) := by
  unfold rdyTo; rw [List.range_succ]; simp
/-- the told ones as bools -/
def Told (n : Nat) (L : List (List Nat)) (T : List Bool) : Prop := T.length = n ∧ ∀ (j : Nat) (b : Bool), T[j]? = some b → (b = true ↔ j ∈ L.flatten)
theorem Told.get {L : List (List Nat)} {T : List Bool} (h : Told n L T) {j : Nat} (hj : j < n) : (T.getD j false = true ↔ j ∈ L.flatten) := by
  have e : T[j]? = some (T.getD j false) := by
    rw [List.getD_eq_getElem?_getD, List.getElem?_eq_getElem (by rw [h.1]; exact hj)]; rfl
  exact h.2 j _ e
theorem rdyTo_iff (hnd : ∀ i j, nd i j = true → (i < n ∧ ch i = true) ∧ (j < n ∧ ch j = true)) {L : List (List Nat)} {T : List Bool} (hT : Told n L T) (i : Nat) : rdyTo ch nd T i n = true ↔ Ready nd L i := by
  simp only [rdyTo, List.all_eq_true, List.mem_range]
  constructor
  · intro h k hk hs
    have hk2 : k < n ∧ ch k = true := (Rch.ends (P := fun _ => True) (Q := fun j => j < n ∧ ch j = true) (fun a b h => ⟨trivial, (hnd a b h).2⟩) hk).2
    have h1 := h k hk2.1
    have h2 : comes nd i k = true := comes_iff.2 (.inr hk)
    rw [same_comes, h2, Bool.true_and] at hs
    rw [h2, hk2.2, hs] at h1
    exact (hT.get hk2.1).1 (by simpa using h1)
  · intro h k hk
    cases h1 : comes nd i k
    · rfl
    · cases h2 : ch k
      · rfl
      · cases h3 : comes nd k i
        · have hs : same nd i k = false := by rw [same_comes, h1, h3]; rfl
          rcases comes_iff.1 h1 with rfl | hr
          · rw [comes_refl] at h3; cases h3
          · rw [(hT.get hk).2 (h k hr hs)]; rfl
        · rfl
/-- the best of the first i -/
def BestTo (ch : Nat → Bool) (nd lt : Nat → Nat → Bool) (n : Nat) (L : List (List Nat)) (i : Nat) (best : List Nat) : Prop :=
  (best = [] ∧ ∀ j, j < i → ¬ Cand ch nd n L j) ∨ ∃ x, x < i ∧ Cand ch nd n L x ∧ best = cls ch nd lt n x ∧ ∀ j, j < i → Cand ch nd n L j → lt (hd (cls ch nd lt n j)) (hd (cls ch nd lt n x)) = false
theorem BestTo.start (L : List (List Nat)) : BestTo ch nd lt n L 0 [] := .inl ⟨rfl, fun j h => by omega⟩
theorem BestTo.skip {L : List (List Nat)} {i : Nat} {best : List Nat} (h : BestTo ch nd lt n L i best) (hi : ¬ Cand ch nd n L i) : BestTo ch nd lt n L (i + 1) best := by
  rcases h with ⟨rfl, h⟩ | ⟨x, hx, hc, rfl, h⟩
  · refine .inl ⟨rfl, fun j hj => ?_⟩
    by_cases e : j = i
    · subst e; exact hi
    · exact h j (by omega)
  · refine .inr ⟨x, by omega, hc, rfl, fun j hj hcj => ?_⟩
    by_cases e : j = i
    · subst e; exact absurd hcj hi
    · exact h j (by omega) hcj
theorem BestTo.take (hO : Ord lt) {L : List (List Nat)} {i : Nat} {best : List Nat} (h : BestTo ch nd lt n L i best) (hi : Cand ch nd n L i) (hb : best = [] ∨ lt (hd (cls ch nd lt n i)) (hd best) = true) : BestTo ch nd lt n L (i + 1) (cls ch nd lt n i) := by
  refine .inr ⟨i, by omega, hi, rfl, fun j hj hcj => ?_⟩
  by_cases e : j = i
  · subst e; exact hO.irrefl _
  · rcases h with ⟨rfl, h⟩ | ⟨x, hx, hc, rfl, h⟩
    · exact absurd hcj (h j (by omega))
    · rcases hb with hb | hb
      · exact absurd hb (cls_ne hc.1 hc.2.1)
      · have h1 := h j (by omega) hcj
        cases h2 : lt (hd (cls ch nd lt n j)) (hd (cls ch nd lt n i))
        · rfl
        · have := hO.trans h2 hb; rw [h1] at this; cases this
theorem BestTo.stay {L : List (List Nat)} {i : Nat} {best : List Nat} (h : BestTo ch nd lt n L i best) (hne : best ≠ []) (hb : lt (hd (cls ch nd lt n i)) (hd best) = false) : BestTo ch nd lt n L (i + 1) best := by
  rcases h with ⟨rfl, h⟩ | ⟨x, hx, hc, rfl, h⟩
  · exact absurd rfl hne
  · refine .inr ⟨x, by omega, hc, rfl, fun j hj hcj => ?_⟩
    by_cases e : j = i
    · subst e; exact hb
    · exact h j (by omega) hcj
theorem BestTo.done {L : List (List Nat)} (h : BestTo ch nd lt n L n []) : Done ch nd n L := by
  rcases h with ⟨_, h⟩ | ⟨x, hx, hc, e, h⟩
  · exact fun i hi => h i hi.1 hi
  · exact absurd e.symm (cls_ne hc.1 hc.2.1)
theorem BestTo.next {L : List (List Nat)} {best : List Nat} (h : BestTo ch nd lt n L n best) (hne : best ≠ []) : Next ch nd lt n L best := by
  rcases h with ⟨rfl, h⟩ | ⟨x, hx, hc, rfl, h⟩
  · exact absurd rfl hne
  · exact ⟨x, hc, rfl, fun j hj => h j hj.1 hj⟩
theorem sub_len : ∀ (q r : List Nat), q.Nodup → (∀ z ∈ q, z ∈ r) → q.length ≤ r.length
  | [], _, _, _ => by simp
  | x :: t, r, hn, hm => by
    obtain ⟨h1, h2⟩ := List.nodup_cons.1 hn
    have hx := hm x (by simp)
    have := sub_len t (r.erase x) h2 fun z hz => (List.mem_erase_of_ne (show z ≠ x from fun e => h1 (e ▸ hz))).2 (hm z (by simp [hz]))
    rw [List.length_erase_of_mem hx] at this
    have := List.length_pos_of_mem hx
    simp; omega
theorem nodup_len (q : List Nat) (n : Nat) (h1 : q.Nodup) (h2 : ∀ x ∈ q, x < n) : q.length ≤ n := by
  have := sub_len q (List.range n) h1 fun x hx => List.mem_range.2 (h2 x hx)
  simpa using this
theorem Chain.len {L : List (List Nat)} (h : Chain ch nd lt n L) : L.flatten.length ≤ n := nodup_len _ _ h.told.2.2.1 fun x hx => (h.told.1 x hx).1
theorem Next.ne {L : List (List Nat)} {r : List Nat} (h : Next ch nd lt n L r) : r ≠ [] := by
  obtain ⟨i, hc, rfl, _⟩ := h; exact cls_ne hc.1 hc.2.1
theorem Next.bd {L : List (List Nat)} {r : List Nat} (h : Next ch nd lt n L r) : ∀ x ∈ r, x < n := by
  obtain ⟨i, hc, rfl, _⟩ := h; exact fun x hx => (mem_cls.1 hx).1
end
end O
end Go.Proofs.YtnmcajinaigcjaaGreatDoor
namespace Go.Proofs.YtnmcajinaigcjaaGreatDoor
namespace O
section
variable {ch : Nat → Bool} {nd lt : Nat → Nat → Bool} {n : Nat}
/-- how many are chosen, of the first k -/
def cntTo (ch : Nat → Bool) (k : Nat) : Nat := ((List.range k).filter ch).length
theorem cntTo_zero : cntTo ch 0 = 0 := rfl
theorem cntTo_succ (k : Nat) : cntTo ch (k + 1) = cntTo ch k + if ch k then 1 else 0 := by
  unfold cntTo
  rw [List.range_succ, List.filter_append, List.length_append]
  cases h : ch k <;> simp [h]
theorem cntTo_le (k : Nat) : cntTo ch k ≤ k := by
  have := List.length_filter_le ch (List.range k); simpa [cntTo] using this
/-- each chosen one stands there once, and behind what it needs -/
structure BehP (ch : Nat → Bool) (nd : Nat → Nat → Bool) (n : Nat) (ps : List Nat) : Prop where
  ok : ∀ x ∈ ps, x < n ∧ ch x = true
  nodup : ps.Nodup
  len : ps.length = cntTo ch n
  behind : ∀ i j, nd i j = true → same nd i j = true ∨ ps.idxOf j ≤ ps.idxOf i
/-- all chosen stand in it -/
theorem BehP.all_in {ps : List Nat} (ok : ∀ x ∈ ps, x < n ∧ ch x = true) (hn : ps.Nodup) (hl : ps.length = cntTo ch n) {x : Nat} (hx : x < n) (hc : ch x = true) : x ∈ ps := by
  refine Classical.byContradiction fun h => ?_
  have := sub_len (x :: ps) ((List.range n).filter ch) (List.nodup_cons.2 ⟨h, hn⟩) fun y hy => by
    rw [List.mem_filter, List.mem_range]
    rcases List.mem_cons.1 hy with rfl | hy
    · exact ⟨hx, hc⟩
    · exact ok y hy
  unfold cntTo at hl
  rw [List.length_cons] at this; omega
theorem idxOf_parts {p q : List Nat} {i j : Nat} (hn : (p ++ q).Nodup) (hj : j ∈ p) (hi : i ∈ q) : (p ++ q).idxOf j < (p ++ q).idxOf i := by
  have hip : i ∉ p := fun h => (List.nodup_append.1 hn).2.2 i h i hi rfl
  rw [List.idxOf_append, List.idxOf_append, if_pos hj, if_neg hip]
  have := List.idxOf_lt_length_iff.2 hj
  omega
theorem beh_of_order (hnd : ∀ i j, nd i j = true → (i < n ∧ ch i = true) ∧ (j < n ∧ ch j = true)) {L : List (List Nat)} (h : Chain ch nd lt n L) (hd : Done ch nd n L) : BehP ch nd n L.flatten := by
  obtain ⟨h1, _, h3, h4⟩ := h.told
  refine ⟨h1, h3, (listed_perm hnd h hd).length_eq, fun i j hij => ?_⟩
  have hi := (hnd i j hij).1
  obtain ⟨r, hr, hir⟩ := List.mem_flatten.1 (all_told hnd hd i hi.1 hi.2)
  obtain ⟨k, hk⟩ := List.getElem?_of_mem hr
  rcases h.needs hnd hk hir hij with h5 | h5
  · right
    have hkl := (List.getElem?_eq_some_iff.1 hk).1
    have e : L.flatten = (L.take k).flatten ++ (L.drop k).flatten := by rw [← List.flatten_append, List.take_append_drop]
    rw [e] at h3 ⊢
    refine Nat.le_of_lt (idxOf_parts h3 h5 (List.mem_flatten.2 ⟨r, ?_, hir⟩))
    rw [List.mem_iff_getElem?]
    exact ⟨0, by rw [List.getElem?_drop]; simpa using hk⟩
  · left
    obtain ⟨x, _, _, rfl⟩ := h4 r hr
    exact same_trans (same_symm (mem_cls.1 hir).2.2) (mem_cls.1 h5).2.2
/-- told in turn: each one's needs are told, or come back to it -/
theorem beh_turn (hnd : ∀ i j, nd i j = true → (i < n ∧ ch i = true) ∧ (j < n ∧ ch j = true)) {ps : List Nat} (ok : ∀ x ∈ ps, x < n ∧ ch x = true) (hn : ps.Nodup) (hl : ps.length = cntTo ch n) :
    BehP ch nd n ps ↔ ∀ (p i : Nat), ps[p]? = some i → ∀ k, nd i k = true → k ∈ ps.take p ∨ comes nd k i = true := by
  have hix : ∀ {p i : Nat}, ps[p]? = some i → ps.idxOf i = p := fun {p i} hp => by
    obtain ⟨h1, h2⟩ := List.getElem?_eq_some_iff.1 hp
    have := hn.idxOf_getElem p h1
    rwa [h2] at this
  have hin : ∀ {x : Nat}, x < n → ch x = true → x ∈ ps := fun hx hc => BehP.all_in ok hn hl hx hc
  constructor
  · intro h p i hp k hk
    rcases h.behind i k hk with h1 | h1
    · right
      rw [comes_iff]
      rcases same_iff.1 h1 with rfl | ⟨_, h2⟩
      · exact .inl rfl
      · exact .inr h2
    · obtain ⟨q, hq⟩ := List.getElem?_of_mem (hin (hnd i k hk).2.1 (hnd i k hk).2.2)
      rw [hix hp, hix hq] at h1
      rcases Nat.lt_or_ge q p with h2 | h2
      · left
        rw [List.mem_iff_getElem?]
        exact ⟨q, by rw [List.getElem?_take, if_pos h2]; exact hq⟩
      · right
        obtain rfl : q = p := by omega
        rw [hp] at hq
        rw [Option.some.inj hq]
        exact comes_refl _ _
  · intro h
    refine ⟨ok, hn, hl, fun i j hij => ?_⟩
    obtain ⟨p, hp⟩ := List.getElem?_of_mem (hin (hnd i j hij).1.1 (hnd i j hij).1.2)
    rcases h p i hp j hij with h1 | h1
    · right
      obtain ⟨q, hq⟩ := List.mem_iff_getElem?.1 h1
      rw [List.getElem?_take] at hq
      split at hq
      · rw [hix hp, hix hq]; omega
      · cases hq
    · left
      rw [same_iff]
      rcases comes_iff.1 h1 with rfl | h2
      · exact .inl rfl
      · exact .inr ⟨.one hij, h2⟩
/-- the ring's place in the order -/
theorem ring_ix {L : List (List Nat)} (hn : L.flatten.Nodup) {a b : Nat} {r s : List Nat} {x : Nat} (ha : L[a]? = some r) (hx : x ∈ r) (hb : L[b]? = some s) (hx2 : x ∈ s) : a = b := by
  have key : ∀ {a b : Nat} {r s : List Nat}, L[a]? = some r → x ∈ r → L[b]? = some s → x ∈ s → ¬ a < b := by
    intro a b r s ha hx hb hx2 hlt
    have e : L.flatten = (L.take b).flatten ++ (L.drop b).flatten := by rw [← List.flatten_append, List.take_append_drop]
    rw [e] at hn
    refine (List.nodup_append.1 hn).2.2 x (List.mem_flatten.2 ⟨r, ?_, hx⟩) x (List.mem_flatten.2 ⟨s, ?_, hx2⟩) rfl
    · rw [List.mem_iff_getElem?]; exact ⟨a, by rw [List.getElem?_take, if_pos hlt]; exact ha⟩
    · rw [List.mem_iff_getElem?]; exact ⟨0, by rw [List.getElem?_drop]; simpa using hb⟩
  rcases Nat.lt_trichotomy a b with h | h | h
  · exact absurd h (key ha hx hb hx2)
  · exact h
  · exact absurd h (key hb hx2 ha hx)
theorem stands_at (hnd : ∀ i j, nd i j = true → (i < n ∧ ch i = true) ∧ (j < n ∧ ch j = true)) {L : List (List Nat)} (h : Chain ch nd lt n L) {a b i j : Nat} {r s : List Nat} (ha : L[a]? = some r) (hi : i ∈ r) (hb : L[b]? = some s) (hj : j ∈ s) (hij : nd i j = true) : b ≤ a := by
  have hn := h.told.2.2.1
  rcases h.needs hnd ha hi hij with h1 | h1
  · obtain ⟨q, hq, hjq⟩ := List.mem_flatten.1 h1
    obtain ⟨c, hc⟩ := List.mem_iff_getElem?.1 hq
    rw [List.getElem?_take] at hc
    split at hc
    · have := ring_ix hn hc hjq hb hj; omega
    · cases hc
  · exact Nat.le_of_eq (ring_ix hn hb hj ha h1)
end
end O
end Go.Proofs.YtnmcajinaigcjaaGreatDoor
namespace Go.Proofs.YtnmcajinaigcjaaGreatDoor
open Go.RowKit
open Q (It Ver Tm Sp Rc Dm)

theorem Tryz.infoInt : (Tryz.prog.info? 3).map (fun i => (i.zero, i.size, i.bytes)) = some (some (.int .i64 0), 1, 8) := by kernel_rfl
/-- places as cells -/
def enN (l : List Nat) : List Value := l.map fun k : Nat => Value.int .i64 k
theorem enN_length (l : List Nat) : (enN l).length = l.length := by simp [enN]
theorem enN_append (l l' : List Nat) : enN (l ++ l') = enN l ++ enN l' := by simp [enN]
theorem enN_get {l : List Nat} {i k : Nat} (h : l[i]? = some k) : (enN l)[i]? = some (.int .i64 k) := by simp [enN, h]
def RN : Rd Nat := fun _ us x => us = [.int .i64 x]
theorem stays_RN : Stays RN := fun _ _ _ _ _ h => h
theorem RN.ones (w : World) : ∀ us x, RN w us x → ∀ u ∈ us, u.oneCell' = true := fun us x h u hu => by rw [h] at hu; simp at hu; subst hu; rfl
theorem flatN (w : World) (l : List Nat) : Flat RN 1 w l (enN l) := by
  refine ⟨by simp [enN], fun i x hx => ⟨[.int .i64 x], rfl, fun j hj => ?_, rfl⟩⟩
  obtain rfl : j = 0 := by omega
  simpa using enN_get hx
theorem RN.iv {w : World} {us : List Value} {x : Nat} {lo hi : Nat} (h : RN w us x) (hs : hi ≤ w.heap.size) : Iv RN lo hi w us x := ⟨hs, fun _ _ _ => h⟩
/-- a list of places that the call made -/
abbrev OwnN (w : World) (base : Nat) (a : Option Addr) (c : Nat) (l : List Nat) : Prop := Own 3 1 w base a c l.length (enN l)
theorem OwnN.sl {w : World} {base : Nat} {a : Option Addr} {c : Nat} {l : List Nat} (h : OwnN w base a c l) (hl : l.length ≤ 5864062014805) : Sl RN 1 w a l := Own.sl h (flatN w l) hl
theorem OwnN.iv {w : World} {base lo c : Nat} {a : Option Addr} {l : List Nat} (h : OwnN w base a c l) (hlo : lo ≤ base) (hl : l.length ≤ 5864062014805) : Iv (RS RN 1) lo w.heap.size w [.slice a l.length c] l :=
  Own.iv h ((flatN w l).mono fun _ _ _ h => RN.iv (w := w) h (Nat.le_refl _)) hlo hl
theorem Sl.cellN {w : World} {a : Option Addr} {l : List Nat} (h : Sl RN 1 w a l) {i k : Nat} (hk : l[i]? = some k) : ∃ b off, a = some ⟨b, off, none⟩ ∧ b < w.heap.size ∧ w.cell? ⟨b, off + i, none⟩ = some (.int .i64 k) := by
  obtain ⟨b, off, e, hlt, hc⟩ := h.addr (by have := (List.getElem?_eq_some_iff.1 hk).1; omega)
  obtain ⟨us, u1, u2, u3⟩ := hc i k hk
  have c0 := u2 0 (by omega)
  rw [u3] at c0
  exact ⟨b, off, e, hlt, by simpa using c0⟩
/-- a list of lists of places -/
theorem Sl.cellNs {w : World} {a : Option Addr} {xs : List (List Nat)} (h : Sl (RS RN 1) 1 w a xs) {i : Nat} {x : List Nat} (hx : xs[i]? = some x) :
    ∃ b off a' c', a = some ⟨b, off, none⟩ ∧ b < w.heap.size ∧ w.cell? ⟨b, off + i, none⟩ = some (.slice a' x.length c') ∧ (x.length ≤ c' ∧ (a' = none → c' = 0)) ∧ Sl RN 1 w a' x := by
  obtain ⟨b, off, e, hlt, hc⟩ := h.addr (by have := (List.getElem?_eq_some_iff.1 hx).1; omega)
  obtain ⟨us, u1, u2, a', c', u3, u4, u5⟩ := hc i x hx
  have c0 := u2 0 (by omega)
  rw [u3] at c0
  exact ⟨b, off, a', c', e, hlt, by simpa using c0, u4, u5⟩
/-- a new list of places came back -/
def NewRow (w : World) (l : List Nat) (e : Ending) (w' : World) : Prop := ∃ a c, e = .returned (.slice a l.length c) ∧ Iv (RS RN 1) w.heap.size w'.heap.size w' [.slice a l.length c] l ∧ Below w.heap.size w w'
theorem Iv.nilN (w : World) (lo hi : Nat) (h : hi ≤ w.heap.size) : Iv (RS RN 1) lo hi w [.slice none 0 0] [] :=
  ⟨h, fun w' _ _ => ⟨none, 0, rfl, ⟨Nat.le_refl _, fun _ => rfl⟩, ⟨fun h0 => by simp at h0, by simp⟩⟩⟩
theorem Iv.row {w : World} {a : Option Addr} {n c lo hi : Nat} {l : List Nat} (h : Iv (RS RN 1) lo hi w [.slice a n c] l) : n = l.length ∧ (l.length ≤ c ∧ (a = none → c = 0)) ∧ Sl RN 1 w a l := by
  obtain ⟨a', c', e, h1, h2⟩ := h.read
  cases e
  exact ⟨rfl, h1, h2⟩

namespace O
def chB (ch : List Bool) (i : Nat) : Bool := ch.getD i false
def asks (l : List Rc) (i j : Nat) : Bool := match l[i]?, l[j]? with | some r, some q => r.deps.any fun s => Q.mt s q | _, _ => false
def ndB (l : List Rc) (ch : List Bool) (i j : Nat) : Bool := chB ch i && (j != i && chB ch j && asks l i j)
def needs (l : List Rc) (ch : List Bool) (i : Nat) : List Nat := (List.range l.length).filter (ndB l ch i)
theorem chB_get {ch : List Bool} {i : Nat} {b : Bool} (h : ch[i]? = some b) : chB ch i = b := by simp [chB, h]
theorem asks_get {l : List Rc} {i j : Nat} {r q : Rc} (h : l[i]? = some r) (h' : l[j]? = some q) : asks l i j = r.deps.any fun s => Q.mt s q := by simp [asks, h, h']
theorem asks_lt {l : List Rc} {i j : Nat} (h : asks l i j = true) : i < l.length ∧ j < l.length := by
  unfold asks at h
  split at h
  · rename_i r q h1 h2; exact ⟨(List.getElem?_eq_some_iff.1 h1).1, (List.getElem?_eq_some_iff.1 h2).1⟩
  · cases h
theorem hnd (l : List Rc) (ch : List Bool) : ∀ i j, ndB l ch i j = true → (i < l.length ∧ chB ch i = true) ∧ (j < l.length ∧ chB ch j = true) := by
  intro i j h
  simp only [ndB, Bool.and_eq_true] at h
  obtain ⟨h1, ⟨_, h2⟩, h3⟩ := h
  exact ⟨⟨(asks_lt h3).1, h1⟩, (asks_lt h3).2, h2⟩
theorem mem_needs {l : List Rc} {ch : List Bool} {i j : Nat} : j ∈ needs l ch i ↔ ndB l ch i j = true := by
  simp only [needs, List.mem_filter, List.mem_range]
  exact ⟨fun h => h.2, fun h => ⟨(hnd l ch i j h).2.1, h⟩⟩
theorem needs_off {l : List Rc} {ch : List Bool} {i : Nat} (h : chB ch i = false) : needs l ch i = [] := by
  unfold needs; rw [List.filter_eq_nil_iff]; intro j _; simp [ndB, h]
theorem needs_length (l : List Rc) (ch : List Bool) (i : Nat) : (needs l ch i).length ≤ l.length := by
  have := List.length_filter_le (ndB l ch i) (List.range l.length); simpa [needs] using this
/-- of the first k -/
def needsTo (l : List Rc) (ch : List Bool) (i k : Nat) : List Nat := (List.range k).filter (ndB l ch i)
theorem needsTo_all (l : List Rc) (ch : List Bool) (i : Nat) : needsTo l ch i l.length = needs l ch i := rfl
theorem needsTo_length (l : List Rc) (ch : List Bool) (i k : Nat) : (needsTo l ch i k).length ≤ k := by
  have := List.length_filter_le (ndB l ch i) (List.range k); simpa [needsTo] using this
theorem needsTo_skip {l : List Rc} {ch : List Bool} {i k : Nat} (h : ndB l ch i k = false) : needsTo l ch i (k + 1) = needsTo l ch i k := by
  unfold needsTo; rw [List.range_succ, List.filter_append]; simp [h]
theorem needsTo_put {l : List Rc} {ch : List Bool} {i k : Nat} (h : ndB l ch i k = true) : needsTo l ch i (k + 1) = needsTo l ch i k ++ [k] := by
  unfold needsTo; rw [List.range_succ, List.filter_append]; simp [h]
/-- what order.Needs hands back, for whatever place -/
def needsAt (l : List Rc) (ch : List Bool) (i : Int) : List Nat := if 0 ≤ i ∧ i < (l.length : Int) ∧ ch.length = l.length then needs l ch i.toNat else []
theorem needsAt_nat {l : List Rc} {ch : List Bool} {i : Nat} (h : i < l.length) (hl : ch.length = l.length) : needsAt l ch i = needs l ch i := by
  unfold needsAt; rw [if_pos ⟨by omega, by omega, hl⟩]; simp
end O
end Go.Proofs.YtnmcajinaigcjaaGreatDoor
namespace Go.Proofs.YtnmcajinaigcjaaGreatDoor
open Go.RowKit
open Q (It Ver Tm Sp Rc Dm)

/-- a record's value in a box -/
def rcArr (r : Rc) (pa la : Option Addr) (pc lc : Nat) (d1 d2 d3 : Value) : Array Value := #[.string r.chan, .string r.file, .string r.name, .string r.text, .int .i64 r.ver.ep, .slice pa r.ver.parts.length pc, .slice la r.ver.loc.length lc, .string r.build, .int .i64 r.num, .int .i64 r.time, d1, d2, d3]
structure RcBox (w : World) (B : Nat) (r : Rc) (pa la : Option Addr) (pc lc : Nat) (d1 d2 d3 : Value) : Prop where
  lt : B < w.heap.size
  at_ : ∀ i v, (rcArr r pa la pc lc d1 d2 d3)[i]? = some v → w.cell? ⟨B, i, none⟩ = some v
theorem RcBox.below {w w' : World} {B : Nat} {r : Rc} {pa la : Option Addr} {pc lc : Nat} {d1 d2 d3 : Value} (h : RcBox w B r pa la pc lc d1 d2 d3) (hb : Below w.heap.size w w') : RcBox w' B r pa la pc lc d1 d2 d3 :=
  ⟨Nat.lt_of_lt_of_le h.lt hb.size, fun i v e => (hb.cell (p := ⟨B, i, none⟩) h.lt).trans (h.at_ i v e)⟩
theorem RcBox.all {w : World} {B : Nat} {r : Rc} {pa la : Option Addr} {pc lc : Nat} {d1 d2 d3 : Value} (h : RcBox w B r pa la pc lc d1 d2 d3) :
    w.cell? ⟨B, 0, none⟩ = some (.string r.chan) ∧ w.cell? ⟨B, 1, none⟩ = some (.string r.file) ∧ w.cell? ⟨B, 2, none⟩ = some (.string r.name) ∧ w.cell? ⟨B, 3, none⟩ = some (.string r.text) ∧ w.cell? ⟨B, 4, none⟩ = some (.int .i64 r.ver.ep) ∧ w.cell? ⟨B, 5, none⟩ = some (.slice pa r.ver.parts.length pc) ∧ w.cell? ⟨B, 6, none⟩ = some (.slice la r.ver.loc.length lc) ∧ w.cell? ⟨B, 7, none⟩ = some (.string r.build) ∧ w.cell? ⟨B, 8, none⟩ = some (.int .i64 r.num) ∧ w.cell? ⟨B, 9, none⟩ = some (.int .i64 r.time) ∧ w.cell? ⟨B, 10, none⟩ = some (d1) ∧ w.cell? ⟨B, 11, none⟩ = some (d2) ∧ w.cell? ⟨B, 12, none⟩ = some (d3) :=
  ⟨h.at_ 0 _ rfl, h.at_ 1 _ rfl, h.at_ 2 _ rfl, h.at_ 3 _ rfl, h.at_ 4 _ rfl, h.at_ 5 _ rfl, h.at_ 6 _ rfl, h.at_ 7 _ rfl, h.at_ 8 _ rfl, h.at_ 9 _ rfl, h.at_ 10 _ rfl, h.at_ 11 _ rfl, h.at_ 12 _ rfl⟩
set_option maxHeartbeats 1000000 in
set_option maxRecDepth 100000 in
theorem needs1_any (s : Sp) (r : Rc) (ra pa la : Option Addr) (rc pc lc : Nat) (d1 d2 d3 : Value) (ad : Addr) (B : Nat) (w : World) (hB : RcBox w B r pa la pc lc d1 d2 d3) (hs : SpAt w s ra rc) (hr : RcAt w r pa la pc lc) (hE : ErrR w ad) :
    Calls Tryz.prog 32 #[.agg #[.string s.chan, .string s.name, .slice ra s.rows.length rc, .string s.build, .int .i64 s.num], .pointer (some ⟨B, 0, none⟩)] w fun e w' => e = .returned (.bool (Q.mt s r)) ∧ Below w.heap.size w w' := by
  have h0 : ∀ o, Below w.heap.size w (w.alloc o) := fun o => (Below.refl _ _).alloc (Nat.le_refl _) o
  have hl := hB.lt
  obtain ⟨t0, t1, t2, t3, t4, t5, t6, t7, t8, t9, t10, t11, t12⟩ := hB.all
  have HI := Lib.hid (fun o => rel (h0 o) (match_any s r ra pa la rc pc lc d1 d2 d3 ad _ (hs.below (h0 o)) (hr.below (h0 o)) (hE.below (h0 o))))
  generalize hq : Q.mt s r = q at HI ⊢
  clear hB hs hr hE h0 hq
  go_enter Tryz.func32, Tryz.ntmps32
  go_wp2_with fail
  (with_reducible refine (HI.out _).mono ?_)
  rintro e w2 ⟨rfl, hb⟩
  go_wp2
  go_ret
  exact ⟨rfl, hb⟩
set_option maxHeartbeats 1000000 in
set_option maxRecDepth 100000 in
theorem indexSp_any (row : List Sp) (a : Option Addr) (c : Nat) (r : Rc) (pa la : Option Addr) (pc lc : Nat) (d1 d2 d3 : Value) (ad : Addr) (B : Nat) (w : World) (hz : Sl RSp 5 w a row) (hB : RcBox w B r pa la pc lc d1 d2 d3) (hr : RcAt w r pa la pc lc) (hE : ErrR w ad) :
    Calls Tryz.prog 64 #[.slice a row.length c, .func (.func 32) #[] #[.pointer (some ⟨B, 0, none⟩)]] w (Found (row.any fun s => Q.mt s r) w) := by
  have hlen := hz.len
  have HZ := Lib.hid hz
  have HBX := Lib.hid hB
  have HV := Lib.hid hr
  have HE := Lib.hid hE
  clear hz hB hr hE
  generalize hr : (row.any fun s => Q.mt s r) = z
  have HR := Lib.hid hr
  clear hr
  go_enter Tryz.func64, Tryz.ntmps64
  go_wp2
  go_loopw [5, 8] (fun _ i wr => ∃ k : Nat, k ≤ row.length ∧ i = .int .i64 k ∧ (row.take k).any (fun s => Q.mt s r) = false ∧ Below w.heap.size w wr) (fun _ i _ => row.length - (intOf i).toNat)
  case atStart => exact ⟨0, Nat.zero_le _, rfl, rfl, Below.refl _ _⟩
  case round =>
    obtain ⟨k, hk, rfl, hf, hbr⟩ := hrel
    have HF := Lib.hid hf
    have HB := Lib.hid hbr
    clear hf hbr
    by_cases hlt : k < row.length
    · obtain ⟨x, hx⟩ : ∃ x, row[k]? = some x := ⟨row[k], by simp [hlt]⟩
      obtain ⟨b, off, ra, rc, rfl, hbl, ⟨c0, c1, c2, c3, c4⟩, hvx⟩ := (HZ.out.below stays_RSp HB.out).cellsSp hx
      have HX := Lib.hid hx
      have HVX := Lib.hid hvx
      clear hx hvx
      go_wp2_with fail
      (with_reducible refine (rel HB.out (needs1_any x r ra pa la rc pc lc d1 d2 d3 ad B _ (HBX.out.below HB.out) HVX.out (HV.out.below HB.out) (HE.out.below HB.out))).mono ?_)
      rintro e w2 ⟨rfl, hb⟩
      generalize hs : Q.mt x r = v
      have HS := Lib.hid hs
      clear hs
      cases v
      · go_wp2
        go_roundw
        case rel => exact ⟨k + 1, by omega, by go_num, any_snoc HX.out HF.out HS.out, hb⟩
        case measure => simp [intOf]; omega
      · go_wp2
        go_ret
        exact ⟨k, rfl, by rw [← HR.out, any_hit HX.out HS.out]; simp, hb⟩
    · go_wp2
      go_ret
      refine ⟨-1, rfl, ?_, HB.out⟩
      have := HF.out
      rw [List.take_of_length_le (by omega)] at this
      rw [← HR.out, this]; rfl
theorem containsSp_any (row : List Sp) (a : Option Addr) (c : Nat) (r : Rc) (pa la : Option Addr) (pc lc : Nat) (d1 d2 d3 : Value) (ad : Addr) (B : Nat) (w : World) (hz : Sl RSp 5 w a row) (hB : RcBox w B r pa la pc lc d1 d2 d3) (hr : RcAt w r pa la pc lc) (hE : ErrR w ad) :
    Calls Tryz.prog 34 #[.slice a row.length c, .func (.func 32) #[] #[.pointer (some ⟨B, 0, none⟩)]] w fun e w' => e = .returned (.bool (row.any fun s => Q.mt s r)) ∧ Below w.heap.size w w' := by
  generalize hq : (row.any fun s => Q.mt s r) = q
  have HI := Lib.hid (hq ▸ indexSp_any row a c r pa la pc lc d1 d2 d3 ad B w hz hB hr hE)
  clear hz hB hr hE hq
  go_enter Tryz.func34, Tryz.ntmps34
  go_wp2_with fail
  refine HI.out.mono ?_
  rintro e w2 ⟨k, rfl, hk, hb⟩
  have HK := Lib.hid hk
  clear hk
  go_wp2
  go_ret
  exact ⟨ret_bool HK.out, hb⟩
theorem RcBox.made (w : World) (r : Rc) (pa la : Option Addr) (pc lc : Nat) (d1 d2 d3 : Value) (t : TypeId) : RcBox (w.alloc (Obj.cells #[.string r.chan, .string r.file, .string r.name, .string r.text, .int .i64 r.ver.ep, .slice pa r.ver.parts.length pc, .slice la r.ver.loc.length lc, .string r.build, .int .i64 r.num, .int .i64 r.time, d1, d2, d3] t)) w.heap.size r pa la pc lc d1 d2 d3 :=
  ⟨by simp, fun i v e => by rw [World.cell?_alloc_new]; exact e⟩
theorem oneNV {w : World} {n : Nat} (hn : w.heap.size = n) (v : Value) (h : v.oneCell' = true) (e : TypeId) : Sl RV 1 (w.alloc (.cells #[v] e)) (some ⟨n, 0, none⟩) [v] := by subst hn; exact RV.one w v h e
theorem O.ndB_at {l : List Rc} {ch : List Bool} {i j : Nat} {r q : Rc} {x y : Bool} (h : l[i]? = some r) (h' : l[j]? = some q) (hx : ch[i]? = some x) (hy : ch[j]? = some y) : O.ndB l ch i j = (x && (j != i && y && r.deps.any fun s => Q.mt s q)) := by
  unfold O.ndB; rw [O.chB_get hx, O.chB_get hy, O.asks_get h h']
set_option maxHeartbeats 4000000 in
set_option maxRecDepth 100000 in
theorem oneeds_ok (ad : Addr) (a b : Option Addr) (c e : Nat) (l : List Rc) (ch : List Bool) (i : Nat) (w : World) (hR : RIn w a b l ch) (hl : ch.length = l.length) (hi : i < l.length) (hon : ch[i]? = some true) (hm : l.length ≤ 1000000) (hE : ErrR w ad) :
    Calls Tryz.prog 10 #[.slice a l.length c, .slice b ch.length e, .int .i64 (i : Int)] w (NewRow w (O.needs l ch i)) := by
  have HR := Lib.hid hR
  have HE := Lib.hid hE
  have HL := Lib.hid hl
  have hl3 := hR.bools.len
  obtain ⟨b2, o2, rfl, hbl2, hcb⟩ := hR.bools.addr (by omega)
  have hcy := hcb i true hon
  have HON := Lib.hid hon
  have HCB := Lib.hid hcb
  have n1 : ((ch.length : Int) != (l.length : Int)) = false := by simp [hl]
  have n2 : decide ((i : Int) < 0) = false := decide_eq_false (by omega)
  have n3 : decide ((i : Int) ≥ (l.length : Int)) = false := decide_eq_false (by omega)
  have n4 : decide ((l.length : Int) ≤ (i : Int)) = false := decide_eq_false (by omega)
  have n5 : decide (l.length ≤ i) = false := decide_eq_false (by omega)
  have n6 : ¬ ((l.length : Int) ≤ (i : Int)) := by omega
  have n7 : ¬ (l.length ≤ i) := by omega
  have n8 : i < ch.length := by omega
  obtain ⟨ri, hri⟩ : ∃ x, l[i]? = some x := ⟨l[i], by simp [hi]⟩
  have HRI := Lib.hid hri
  clear hR hE hl hon hri hcb
  go_enter Tryz.func10, Tryz.ntmps10
  go_wp2
  go_loopw [7, 8, 9, 10, 35] (fun s _ _ _ j wr => ∃ (k : Nat) (pa : Option Addr) (pc : Nat), k ≤ l.length ∧ j = .int .i64 k ∧ s = .slice pa (O.needsTo l ch i k).length pc ∧ OwnN wr w.heap.size pa pc (O.needsTo l ch i k) ∧ Below w.heap.size w wr) (fun _ _ _ _ j _ => l.length - (intOf j).toNat)
  case atStart => exact ⟨0, none, 0, Nat.zero_le _, rfl, rfl, Own.nil _ _ _ _, Below.refl _ _⟩
  case round =>
    obtain ⟨k, pa0, pc0, hk, rfl, rfl, hown, hbr⟩ := hrel
    have HO := Lib.hid hown
    have HB := Lib.hid hbr
    have hz2 : w.heap.size ≤ wr.heap.size := hbr.size
    have hnl := O.needsTo_length l ch i k
    clear hown hbr
    by_cases hlt : k < l.length
    · have hltc : k < ch.length := by have := HL.out; omega
      obtain ⟨r, hx⟩ : ∃ x, l[k]? = some x := ⟨l[k], by simp [hlt]⟩
      obtain ⟨y, hy⟩ : ∃ x, ch[k]? = some x := ⟨ch[k], by simp [hltc]⟩
      obtain ⟨bb, off, pa, la, pc, lc, da, dc, ca, cc, fa, fc, e1, hbl, ⟨t0, t1, t2, t3, t4, t5, t6, t7, t8, t9, t10, t11, t12⟩, hat, _⟩ := (HR.out.recs.below stays_RRc HB.out).cellsRc hx
      obtain ⟨bb', off', pa2, la2, pc2, lc2, da2, dc2, ca2, cc2, fa2, fc2, e9, hbl9, ⟨_, _, _, _, _, _, _, _, _, _, u10, _⟩, _, hdep, _⟩ := (HR.out.recs.below stays_RRc HB.out).cellsRc HRI.out
      subst e1
      cases e9
      have hcy2 := (HB.out.cell (p := ⟨b2, o2 + k, none⟩) hbl2).trans (HCB.out k y hy)
      have hdl := hdep.len
      have HND := Lib.hid (O.ndB_at HRI.out hx HON.out hy)
      have HAT := Lib.hid hat
      have HDE := Lib.hid hdep
      have HCS := Lib.hid (fun (o : TypeId) => rel (b1 _ _) (containsSp_any ri.deps da2 dc2 r pa la pc lc (.slice da r.deps.length dc) (.slice ca r.cons.length cc) (.slice fa r.feats.length fc) ad wr.heap.size _ (HDE.out.below stays_RSp (b1 _ _)) (RcBox.made wr r pa la pc lc _ _ _ o) (HAT.out.below (b1 _ _)) ((HE.out.below HB.out).below (b1 _ _))))
      clear hx hy hat hdep
      have hbl3 : b2 < wr.heap.size := by omega
      by_cases hki2 : k = i
      · have hkf : (k != i) = false := by simp [hki2]
        have hkz : ((k : Int) != (i : Int)) = false := by simp [hki2]
        have HBK := Lib.hid (O.needsTo_skip (l := l) (ch := ch) (i := i) (k := k) (by rw [HND.out, hkf]; simp))
        go_wp2
        go_roundw
        case rel => exact ⟨k + 1, pa0, pc0, by omega, by go_num, by rw [HBK.out], by rw [HBK.out]; exact HO.out.below (b1 _ _), HB.out.alloc HB.out.size _⟩
        case measure => simp [intOf]; omega
      · have hkf : (k != i) = true := by simp [hki2]
        have hkz : ((k : Int) != (i : Int)) = true := by rw [bne_iff_ne]; omega
        cases y
        · have HBK := Lib.hid (O.needsTo_skip (l := l) (ch := ch) (i := i) (k := k) (by rw [HND.out, hkf]; simp))
          go_wp2
          go_roundw
          case rel => exact ⟨k + 1, pa0, pc0, by omega, by go_num, by rw [HBK.out], by rw [HBK.out]; exact HO.out.below (b1 _ _), HB.out.alloc HB.out.size _⟩
          case measure => simp [intOf]; omega
        · generalize hq : (ri.deps.any fun s => Q.mt s r) = q at HND HCS
          have HKF := Lib.hid hkf
          clear hq
          go_wp2_with fail
          (with_reducible refine (HCS.out _).mono ?_)
          rintro e w2 ⟨rfl, hb⟩
          have HB2 := Lib.hid (fin HB.out hb)
          have HO2 := Lib.hid (HO.out.below hb)
          have hz3 : w.heap.size ≤ w2.heap.size := Nat.le_trans hz2 hb.size
          clear hb
          cases q
          · have HBK := Lib.hid (O.needsTo_skip (l := l) (ch := ch) (i := i) (k := k) (by rw [HND.out]; simp))
            go_wp2
            go_roundw
            case rel => exact ⟨k + 1, pa0, pc0, by omega, by go_num, by rw [HBK.out], by rw [HBK.out]; exact HO2.out, HB2.out⟩
            case measure => simp [intOf]; omega
          · have HBK := Lib.hid (O.needsTo_put (l := l) (ch := ch) (i := i) (k := k) (by rw [HND.out, HKF.out]; simp))
            go_wp2_with (at_builtin; refine wpList_append_flat Tryz.infoInt rfl (by decide) rfl (.tmp 59) (.tmp 61) 31 rfl Tryz.underlying31 w.heap.size _ _ _ _ rfl (HO2.out.below (b1 _ _)) _ _ _ [.int .i64 k] rfl rfl (oneNV (by simp) (.int .i64 k) rfl _) (RV.ones _) (fun e => by cases e) (by omega) (by omega) (by simp; omega) ?_; intro a1 c1 w1 cells1 hown1 hF1 hg1 hB1; have HB1 := Lib.hid hB1; have HO1 := Lib.hid hown1; have HF1 := Lib.hid hF1.rv; clear hg1 hown1 hB1 hF1)
            go_roundw
            case rel =>
              refine ⟨k + 1, a1, c1, by omega, by go_num, by rw [HBK.out]; simp, ?_, (HB2.out.alloc HB2.out.size _).trans HB1.out⟩
              have := HO1.out
              rw [HF1.out] at this
              rw [HBK.out]
              show Own _ _ _ _ _ _ _ (enN _)
              rw [enN_append]; simpa [enN] using this
            case measure => simp [intOf]; omega
    · obtain rfl : k = l.length := by omega
      go_wp2
      go_ret
      exact ⟨pa0, pc0, rfl, HO.out.iv (Nat.le_refl _) (by omega), HB.out⟩
set_option maxHeartbeats 1000000 in
set_option maxRecDepth 100000 in
theorem oneeds_off (a b : Option Addr) (c e : Nat) (l : List Rc) (ch : List Bool) (i : Nat) (w : World) (hR : RIn w a b l ch) (hl : ch.length = l.length) (hi : i < l.length) (hon : ch[i]? = some false) :
    Calls Tryz.prog 10 #[.slice a l.length c, .slice b ch.length e, .int .i64 (i : Int)] w (NewRow w (O.needs l ch i)) := by
  obtain ⟨b2, o2, rfl, hbl2, hcb⟩ := hR.bools.addr (by omega)
  have hcy := hcb i false hon
  have n1 : ((ch.length : Int) != (l.length : Int)) = false := by simp [hl]
  have n2 : decide ((i : Int) < 0) = false := decide_eq_false (by omega)
  have n3 : decide ((i : Int) ≥ (l.length : Int)) = false := decide_eq_false (by omega)
  have n4 : decide ((l.length : Int) ≤ (i : Int)) = false := decide_eq_false (by omega)
  have n5 : decide (l.length ≤ i) = false := decide_eq_false (by omega)
  have n6 : ¬ ((l.length : Int) ≤ (i : Int)) := by omega
  have n7 : ¬ (l.length ≤ i) := by omega
  have n8 : i < ch.length := by omega
  rw [O.needs_off (O.chB_get hon)]
  clear hR hl hcb hon
  go_enter Tryz.func10, Tryz.ntmps10
  go_wp2
  go_ret
  exact ⟨none, 0, rfl, Iv.nilN _ _ _ (Nat.le_refl _), Below.refl _ _⟩
theorem oneeds_any (ad : Addr) (a b : Option Addr) (c e : Nat) (l : List Rc) (ch : List Bool) (i : Nat) (w : World) (hR : RIn w a b l ch) (hl : ch.length = l.length) (hi : i < l.length) (hm : l.length ≤ 1000000) (hE : ErrR w ad) :
    Calls Tryz.prog 10 #[.slice a l.length c, .slice b ch.length e, .int .i64 (i : Int)] w (NewRow w (O.needs l ch i)) := by
  have hlt : i < ch.length := by omega
  cases h : ch[i]
  · exact oneeds_off a b c e l ch i w hR hl hi (by rw [List.getElem?_eq_getElem hlt, h])
  · exact oneeds_ok ad a b c e l ch i w hR hl hi (by rw [List.getElem?_eq_getElem hlt, h]) hm hE
end Go.Proofs.YtnmcajinaigcjaaGreatDoor
namespace Go.Proofs.YtnmcajinaigcjaaGreatDoor
open Q (It Ver Tm Sp Rc Dm)
theorem Q.less_irrefl' : ∀ x : List UInt8, Q.less x x = false
  | [] => rfl
  | a :: x => by simp [Q.less, Go.Op.bytesLess]; exact less_irrefl' x
theorem Q.less_cons (a b : UInt8) (x y : List UInt8) : Q.less (a :: x) (b :: y) = true ↔ a.toNat < b.toNat ∨ (a.toNat = b.toNat ∧ Q.less x y = true) := by
  simp [Q.less, Go.Op.bytesLess, UInt8.lt_iff_toNat_lt, UInt8.toNat_inj]
theorem Q.less_trans' : ∀ {x y z : List UInt8}, Q.less x y = true → Q.less y z = true → Q.less x z = true
  | x, [], z, h, _ => by cases x <;> simp [Q.less, Go.Op.bytesLess] at h
  | x, b :: y, [], _, h => by simp [Q.less, Go.Op.bytesLess] at h
  | [], b :: y, c :: z, _, _ => rfl
  | a :: x, b :: y, c :: z, h, h' => by
    rw [Q.less_cons] at *
    rcases h with h | ⟨h, h1⟩ <;> rcases h' with h' | ⟨h', h2⟩
    · left; omega
    · left; omega
    · left; omega
    · right; exact ⟨by omega, less_trans' h1 h2⟩
theorem Q.less_total' : ∀ {x y : List UInt8}, Q.less x y = false → Q.less y x = false → x = y
  | [], [], _, _ => rfl
  | [], b :: y, h, _ => by simp [Q.less, Go.Op.bytesLess] at h
  | a :: x, [], _, h => by simp [Q.less, Go.Op.bytesLess] at h
  | a :: x, b :: y, h, h' => by
    have h1 : ¬ (Q.less (a :: x) (b :: y) = true) := by rw [h]; simp
    have h2 : ¬ (Q.less (b :: y) (a :: x) = true) := by rw [h']; simp
    rw [Q.less_cons] at h1 h2
    have e : a.toNat = b.toNat := by omega
    have e1 : a = b := UInt8.toNat_inj.1 e
    subst e1
    rw [less_total' (x := x) (y := y) (by cases h3 : Q.less x y <;> simp_all) (by cases h3 : Q.less y x <;> simp_all)]
def Q.or2 (x y : Int) : Int := if x = 0 then y else x
namespace O
/-- how the code compares two places -/
def nm (l : List Rc) (i : Nat) : ByteArray := match l[i]? with | some r => r.name | none => ⟨#[]⟩
theorem nm_at {l : List Rc} {i : Nat} {r : Rc} (h : l[i]? = some r) : nm l i = r.name := by simp [nm, h]
def cf (l : List Rc) (i j : Nat) : Int := Q.or2 (Q.cmpS (nm l i) (nm l j)) (Q.cmpI i j)
theorem cf_at {l : List Rc} {i j : Nat} {r q : Rc} (h : l[i]? = some r) (h' : l[j]? = some q) : cf l i j = Q.or2 (Q.cmpS r.name q.name) (Q.cmpI i j) := by
  unfold cf; rw [nm_at h, nm_at h']
def lt (l : List Rc) (i j : Nat) : Bool := decide (cf l i j < 0)
theorem lt_iff {l : List Rc} {i j : Nat} : lt l i j = true ↔ Q.less (nm l i).toList (nm l j).toList = true ∨ ((nm l i).toList = (nm l j).toList ∧ i < j) := by
  unfold lt cf Q.cmpS Q.or2 Q.cmpI
  generalize (nm l i).toList = x
  generalize (nm l j).toList = y
  rw [decide_eq_true_iff]
  cases h : Q.less x y
  · by_cases e : x = y
    · subst e
      simp
      by_cases h1 : i < j
      · simp [h1]
      · simp [h1]; split <;> omega
    · simp [e]
  · simp
theorem ord (l : List Rc) : Ord (lt l) := by
  refine ⟨fun i => ?_, fun {i j k} h1 h2 => ?_, fun {i j} h1 h2 => ?_⟩
  · cases h : lt l i i
    · rfl
    · rw [lt_iff, Q.less_irrefl'] at h; simp at h
  · rw [lt_iff] at *
    rcases h1 with h1 | ⟨h1, h3⟩ <;> rcases h2 with h2 | ⟨h2, h4⟩
    · exact .inl (Q.less_trans' h1 h2)
    · rw [← h2]; exact .inl h1
    · rw [h1]; exact .inl h2
    · exact .inr ⟨h1.trans h2, by omega⟩
  · have n1 : ¬ (lt l i j = true) := by rw [h1]; simp
    have n2 : ¬ (lt l j i = true) := by rw [h2]; simp
    rw [lt_iff] at n1 n2
    have e : (nm l i).toList = (nm l j).toList := Q.less_total' (by cases h : Q.less (nm l i).toList (nm l j).toList <;> simp_all) (by cases h : Q.less (nm l j).toList (nm l i).toList <;> simp_all)
    have : ¬ i < j := fun h => n1 (.inr ⟨e, h⟩)
    have : ¬ j < i := fun h => n2 (.inr ⟨e.symm, h⟩)
    omega
end O
end Go.Proofs.YtnmcajinaigcjaaGreatDoor
namespace Go.Proofs.YtnmcajinaigcjaaGreatDoor
open Go.RowKit
open Q (It Ver Tm Sp Rc Dm)
open Go.Sort

theorem alloc_drew_grow (w : World) (o : Obj) : (w.alloc o).drew = grow (w.drewN 1) #[o] := by rw [alloc_eq_grow]; rfl
theorem or2_any (B : Nat) (x y : Int) (w : World) (h0 : w.cell? ⟨B, 0, none⟩ = some (.int .i64 x)) (h1 : w.cell? ⟨B, 1, none⟩ = some (.int .i64 y)) :
    Calls Tryz.prog 80 #[.slice (some ⟨B, 0, none⟩) 2 2] w fun e w' => e = .returned (.int .i64 (Q.or2 x y)) ∧ w = w' := by
  by_cases hx : x = 0
  · subst hx
    rw [show Q.or2 0 y = y from if_pos rfl]
    by_cases hy : y = 0
    · subst hy
      go_enter Tryz.func80, Tryz.ntmps80
      go_wp2
      refine wp_loop_rounds 3 ?_
      rw [rounds_succ]
      go_wp2
      rw [rounds_succ]
      go_wp2
      rw [rounds_succ]
      go_wp2
      go_ret
      exact ⟨rfl, rfl⟩
    · have hb : (y != 0) = true := by simpa using hy
      go_enter Tryz.func80, Tryz.ntmps80
      go_wp2
      refine wp_loop_rounds 2 ?_
      rw [rounds_succ]
      go_wp2
      rw [rounds_succ]
      go_wp2
      go_ret
      exact ⟨rfl, rfl⟩
  · rw [show Q.or2 x y = x from if_neg hx]
    have hb : (x != 0) = true := by simpa using hx
    go_enter Tryz.func80, Tryz.ntmps80
    go_wp2
    refine wp_loop_rounds 1 ?_
    rw [rounds_succ]
    go_wp2
    go_ret
    exact ⟨rfl, rfl⟩
set_option maxHeartbeats 2000000 in
set_option maxRecDepth 100000 in
theorem ocompare_any (S : Nat) (a : Option Addr) (c : Nat) (l : List Rc) (i j : Nat) (w : World) (hS : w.cell? ⟨S, 0, none⟩ = some (.slice a l.length c)) (hR : Sl RRc 13 w a l) (hi : i < l.length) (hj : j < l.length) :
    Calls Tryz.prog 56 #[.pointer (some ⟨S, 0, none⟩), .int .i64 (i : Int), .int .i64 (j : Int)] w fun e w' => e = .returned (.int .i64 (O.cf l i j)) ∧ ∃ q os, w' = grow (w.drewN q) os := by
  obtain ⟨r, hr⟩ : ∃ x, l[i]? = some x := ⟨l[i], by simp [hi]⟩
  obtain ⟨q, hq⟩ : ∃ x, l[j]? = some x := ⟨l[j], by simp [hj]⟩
  rw [O.cf_at hr hq]
  have hlen := hR.len
  obtain ⟨bb, off, pa, la, pc, lc, da, dc, ca, cc, fa, fc, e1, hbl, ⟨_, _, t2, _⟩, _⟩ := hR.cellsRc hr
  obtain ⟨bb', off', pa2, la2, pc2, lc2, da2, dc2, ca2, cc2, fa2, fc2, e9, hbl9, ⟨_, _, u2, _⟩, _⟩ := hR.cellsRc hq
  subst e1
  cases e9
  clear hR hr hq
  generalize r.name = rn at t2 ⊢
  generalize q.name = qn at u2 ⊢
  go_enter Tryz.func56, Tryz.ntmps56
  go_wp2_with fail
  go_region_held3 (fun w' => w'.cell? ⟨S, 0, none⟩ = some (.slice (some ⟨bb, off, none⟩) l.length c) ∧ w'.cell? ⟨bb, off + i * 13 + 2, none⟩ = some (.string rn) ∧ w'.cell? ⟨bb, off + j * 13 + 2, none⟩ = some (.string qn))
    (first | go_keep)
    (first
    | (go_at_call 82; (with_reducible refine (compare_any _ _ _).mono ?_); rintro e w2 ⟨rfl, rfl⟩)
    | (go_at_call 81; (with_reducible refine (compareS_any _ _ _).mono ?_); rintro e w2 ⟨rfl, rfl⟩)
    | (go_at_call 80; (with_reducible refine (or2_any _ (Q.cmpS rn qn) (Q.cmpI i j) _ ?_ ?_).mono ?_); (focus (simp; done)); (focus (simp; done)); rintro e w2 ⟨rfl, rfl⟩))
  go_wp2
  go_ret
  exact ⟨rfl, 1, _, alloc_drew_grow _ _⟩
theorem drew_grow (w : World) (n : Nat) (os : Array Obj) : (grow (w.drewN n) os).drew = grow (w.drewN (n + 1)) os := rfl
set_option maxHeartbeats 2000000 in
set_option maxRecDepth 100000 in
theorem ocompareRings_any (S : Nat) (a x y : Option Addr) (c xn yn xc yc : Nat) (l : List Rc) (i j : Nat) (w : World) (hS : w.cell? ⟨S, 0, none⟩ = some (.slice a l.length c)) (hR : Sl RRc 13 w a l) (hi : i < l.length) (hj : j < l.length)
    (hx : ∃ b off, x = some ⟨b, off, none⟩ ∧ b < w.heap.size ∧ w.cell? ⟨b, off, none⟩ = some (.int .i64 (i : Int))) (hxn : 0 < xn) (hy : ∃ b off, y = some ⟨b, off, none⟩ ∧ b < w.heap.size ∧ w.cell? ⟨b, off, none⟩ = some (.int .i64 (j : Int))) (hyn : 0 < yn) :
    Calls Tryz.prog 27 #[.pointer (some ⟨S, 0, none⟩), .slice x xn xc, .slice y yn yc] w fun e w' => e = .returned (.int .i64 (O.cf l i j)) ∧ ∃ q os, w' = grow (w.drewN q) os := by
  obtain ⟨b1, o1, rfl, hb1, hc1⟩ := hx
  obtain ⟨b2, o2, rfl, hb2, hc2⟩ := hy
  have H1 := Lib.hid (ocompare_any S a c l i j w hS hR hi hj)
  have H2 := Lib.hid (ocompare_any S a c l i j w.drew hS (hR.below stays_RRc ((Below.refl _ _).drew)) hi hj)
  clear hS hR hi hj
  have HK := Lib.hid (fun (n : Nat) (os : Array Obj) => And.intro (cell_grown (a := ⟨b1, o1, none⟩) hb1 hc1 n os) (cell_grown (a := ⟨b2, o2, none⟩) hb2 hc2 n os))
  have n1 : decide (0 < (xn : Int)) = true := decide_eq_true (by omega)
  have n2 : decide (0 < (yn : Int)) = true := decide_eq_true (by omega)
  have z1 : (0 : Int) < (xn : Int) := by omega
  have z2 : (0 : Int) < (yn : Int) := by omega
  go_enter Tryz.func27, Tryz.ntmps27
  go_wp2_with fail
  go_region_held3 (fun w' => w'.cell? ⟨b1, o1, none⟩ = some (.int .i64 (i : Int)) ∧ w'.cell? ⟨b2, o2, none⟩ = some (.int .i64 (j : Int)))
    (first | exact HK.out _ _ | go_keep)
    (first
    | (go_at_call 56; (first | (with_reducible refine H1.out.mono ?_) | (with_reducible refine H2.out.mono ?_)); rintro e w2 ⟨rfl, q, os, rfl⟩))
  go_wp2
  go_ret
  exact ⟨rfl, _, _, rfl⟩
end Go.Proofs.YtnmcajinaigcjaaGreatDoor
namespace Go.Proofs.YtnmcajinaigcjaaGreatDoor
open Go.RowKit
open Q (It Ver Tm Sp Rc Dm)

/-- a truth value's cell -/
def RZ : Rd Bool := fun _ us z => us = [.bool z]
theorem stays_RZ : Stays RZ := fun _ _ _ _ _ h => h
/-- who is reached from where, for the first k -/
noncomputable def O.reachedTo (nd : Nat → Nat → Bool) (n k : Nat) : List (List Bool) := (List.range k).map fun i => (List.range n).map fun j => O.rb nd i j
theorem O.reachedTo_length (nd : Nat → Nat → Bool) (n k : Nat) : (O.reachedTo nd n k).length = k := by simp [O.reachedTo]
theorem O.reachedTo_get {nd : Nat → Nat → Bool} {n k i : Nat} (h : i < k) : (O.reachedTo nd n k)[i]? = some ((List.range n).map fun j => O.rb nd i j) := by simp [O.reachedTo, h]
theorem O.reached_row {nd : Nat → Nat → Bool} {n i j : Nat} (h : j < n) : ((List.range n).map fun j => O.rb nd i j)[j]? = some (O.rb nd i j) := by simp [h]
/-- what the sorter knows of who is reached -/
structure SrtR (w : World) (S n : Nat) (nd : Nat → Nat → Bool) (ra : Option Addr) (rc : Nat) : Prop where
  cell : w.cell? ⟨S, 3, none⟩ = some (.slice ra n rc)
  rows : Sl (RS RZ 1) 1 w ra (O.reachedTo nd n n)
theorem SrtR.below {w w' : World} {S n : Nat} {nd : Nat → Nat → Bool} {ra : Option Addr} {rc : Nat} (h : SrtR w S n nd ra rc) (hb : Below w.heap.size w w') : SrtR w' S n nd ra rc :=
  ⟨(hb.cell (cell_lt h.cell)).trans h.cell, h.rows.below (stays_RS stays_RZ) hb⟩
/-- one of the two places' cells -/
theorem SrtR.at {w : World} {S n : Nat} {nd : Nat → Nat → Bool} {ra : Option Addr} {rc : Nat} (h : SrtR w S n nd ra rc) {i j : Nat} (hi : i < n) (hj : j < n) :
    ∃ b off b' off' c', ra = some ⟨b, off, none⟩ ∧ b < w.heap.size ∧ b' < w.heap.size ∧ w.cell? ⟨b, off + i, none⟩ = some (.slice (some ⟨b', off', none⟩) n c') ∧ w.cell? ⟨b', off' + j, none⟩ = some (.bool (O.rb nd i j)) := by
  obtain ⟨b, off, e, hlt, hc⟩ := h.rows.addr (by rw [O.reachedTo_length]; omega)
  obtain ⟨us, u1, u2, a', c', u3, u4, u5⟩ := hc i _ (O.reachedTo_get hi)
  have c0 := u2 0 (by omega)
  rw [u3] at c0
  obtain ⟨b', off', e', hlt', hc'⟩ := u5.addr (by simp; omega)
  obtain ⟨us', v1, v2, v3⟩ := hc' j _ (O.reached_row hj)
  have c1 := v2 0 (by omega)
  rw [v3] at c1
  subst e'
  exact ⟨b, off, b', off', c', e, hlt, hlt', by simpa using c0, by simpa using c1⟩
set_option maxHeartbeats 2000000 in
set_option maxRecDepth 100000 in
theorem osame_any (S n : Nat) (nd : Nat → Nat → Bool) (ra : Option Addr) (rc i j : Nat) (w : World) (h : SrtR w S n nd ra rc) (hi : i < n) (hj : j < n) :
    Calls Tryz.prog 54 #[.pointer (some ⟨S, 0, none⟩), .int .i64 (i : Int), .int .i64 (j : Int)] w fun e w' => e = .returned (.bool (O.same nd i j)) ∧ w' = w := by
  have hc := h.cell
  obtain ⟨b, off, b1, o1, c1, e1, hb, hb1, k1, k2⟩ := h.at hi hj
  obtain ⟨b', off', b2, o2, c2, e2, hb', hb2, k3, k4⟩ := h.at hj hi
  subst e1
  cases e2
  clear h
  unfold O.same
  by_cases hij : i = j
  · subst hij
    go_enter Tryz.func54, Tryz.ntmps54
    go_wp2
    go_ret
    exact ⟨by simp, rfl⟩
  · have n1 : ((i : Int) == (j : Int)) = false := by simp; omega
    have n2 : (i == j) = false := by simp [hij]
    rw [n2]
    generalize O.rb nd i j = x at k2 ⊢
    generalize O.rb nd j i = y at k4 ⊢
    cases x
    · go_enter Tryz.func54, Tryz.ntmps54
      go_wp2
      go_ret
      exact ⟨rfl, rfl⟩
    · go_enter Tryz.func54, Tryz.ntmps54
      go_wp2
      go_ret
      exact ⟨rfl, rfl⟩
end Go.Proofs.YtnmcajinaigcjaaGreatDoor
namespace Go.Proofs.YtnmcajinaigcjaaGreatDoor
open Go.RowKit
open Q (It Ver Tm Sp Rc Dm)

theorem heap_new1 (w : World) (o : Obj) : (w.alloc o).heap[w.heap.size]? = some o := by
  unfold World.alloc; simp
theorem Own.pop {e : TypeId} {w : World} {base g c n : Nat} {l : List Nat} {k : Nat} (h : Own e 1 w base (some ⟨g, 0, none⟩) c n (enN (l ++ [k]))) : n = l.length + 1 ∧ Own e 1 w base (some ⟨g, 0, none⟩) c l.length (enN l) := by
  obtain ⟨h1, ⟨e0, _⟩ | ⟨g', c', cur, e0, hb, hg, h2, h3, h4, h5⟩⟩ := h
  · cases e0
  have hn : n = l.length + 1 := by rw [enN_length] at h1; simp at h1; omega
  refine ⟨hn, by rw [enN_length]; omega, .inr ⟨g', c', cur, ?_, hb, hg, by omega, h3, h4, ?_⟩⟩
  · injection e0 with e1 e2 e3; subst e3; rw [e1]
  · have := congrArg (List.take (l.length * 1)) h5
    rw [List.take_take, enN_append] at this
    rw [show min (l.length * 1) (n * 1) = l.length * 1 by omega, List.take_left' (by rw [enN_length]; omega)] at this
    exact this
set_option maxHeartbeats 4000000 in
set_option maxRecDepth 100000 in
theorem oreach_any (S : Nat) (a na : Option Addr) (c nc n : Nat) (nd : Nat → Nat → Bool) (N : List (List Nat)) (i : Nat) (w : World) (hS0 : w.cell? ⟨S, 0, none⟩ = some (.slice a n c)) (hS2 : w.cell? ⟨S, 2, none⟩ = some (.slice na n nc)) (hN : Sl (RS RN 1) 1 w na N) (hlen : N.length = n)
    (hnd : ∀ j row, N[j]? = some row → (∀ k, k ∈ row ↔ nd j k = true) ∧ (∀ k ∈ row, k < n) ∧ row.length ≤ n) (hi : i < n) (hm : n ≤ 1000000) :
    Calls Tryz.prog 51 #[.pointer (some ⟨S, 0, none⟩), .int .i64 (i : Int)] w fun e w' => ∃ g, e = .returned (.slice (some ⟨g, 0, none⟩) n n) ∧ OwnB w' w.heap.size (some ⟨g, 0, none⟩) n ((List.range n).map fun j => O.rb nd i j) ∧ Below w.heap.size w w' := by
  have hSl := cell_lt hS0
  have HN := Lib.hid hN
  have HL := Lib.hid hlen
  have HND := Lib.hid hnd
  have HS2 := Lib.hid hS2
  clear hN hlen hnd hS2
  go_enter Tryz.func51, Tryz.ntmps51
  go_wp2_with (at_make; refine wpList_make_Bools rfl (.tmp 14) (.tmp 14) rfl w.heap.size n rfl rfl (by omega) (Nat.le_refl _) ?_; intro w1 hown hb1 hlt1; have HO := Lib.hid hown; have HB := Lib.hid hb1; clear hown hb1)
  have hq0 : OwnN (w1.alloc (Obj.cells #[.int .i64 (i : Int)] 3)) (w.heap.size + 1) (some ⟨w1.heap.size, 0, none⟩) 1 [i] := by
    refine ⟨by simp [enN], .inr ⟨w1.heap.size, 1, #[.int .i64 (i : Int)], rfl, by omega, heap_new1 _ _, by simp, by unfold maxLen; omega, by simp, by simp [enN]⟩⟩
  have HQ0 := Lib.hid hq0
  clear hq0
  go_loopg [6, 7, 9, 40] (n + 1) (fun kx s6 _ _ _ wr => ∃ (m : List Bool) (q : List Nat) (qa : Option Addr) (qc : Nat), s6 = .slice qa q.length qc ∧ OwnN wr (w.heap.size + 1) qa qc q ∧ OwnB wr w.heap.size (some ⟨w.heap.size, 0, none⟩) n m ∧ m.length = n ∧ O.Srch nd i m q ∧ (∀ k ∈ q, k < n) ∧ O.offs m + q.length ≤ kx ∧ kx ≤ n + 1 ∧ Below w.heap.size w wr)
  case atStart => exact ⟨List.replicate n false, [i], some ⟨w1.heap.size, 0, none⟩, 1, rfl, HQ0.out, HO.out.below (b1 _ _), by simp, O.Srch.start nd i n, by simpa using hi, by have := O.offs_le (List.replicate n false); simp at this ⊢; omega, Nat.le_refl _, HB.out.alloc HB.out.size _⟩
  case round =>
    obtain ⟨m, q, qa, qc, rfl, hqo, hmo, hml, hsr, hqn, hk1, hk2, hbr⟩ := hrel
    have HQ := Lib.hid hqo
    have HM := Lib.hid hmo
    have HSR := Lib.hid hsr
    have HQN := Lib.hid hqn
    have HBR := Lib.hid hbr
    have hz := hbr.size
    clear hqo hmo hsr hqn hbr HQ0
    rcases List.eq_nil_or_concat q with rfl | ⟨q', last, eq0⟩
    · go_wp2
      go_ret
      refine ⟨_, rfl, ?_, HBR.out⟩
      have e : m = (List.range n).map fun j => O.rb nd i j := by
        apply List.ext_getElem?
        intro j
        by_cases hj : j < n
        · obtain ⟨x, hx⟩ : ∃ x, m[j]? = some x := ⟨m[j], by simp [hml, hj]⟩
          rw [hx, O.reached_row hj, HSR.out.done hx]
        · rw [List.getElem?_eq_none (by omega), List.getElem?_eq_none (by simp; omega)]
      rw [← e]; exact HM.out
    · rw [List.concat_eq_append] at eq0
      subst eq0
      have hql : (q' ++ [last]).length = q'.length + 1 := by simp
      obtain ⟨g, rfl, hgl, hgb, hcl⟩ := Own.cell HQ.out (i := q'.length) (v := .int .i64 (last : Int)) (by simp [enN])
      have hpop := (Own.pop HQ.out).2
      have HP := Lib.hid hpop
      have hlast : last < n := HQN.out last (by simp)
      have hcap := (Own.cap HQ.out).1
      rw [hql] at hcap hk1
      rw [hql]
      clear hql
      obtain ⟨row, hrow⟩ : ∃ x, N[last]? = some x := ⟨N[last]'(by have := HL.out; omega), by simp⟩
      obtain ⟨hr1, hr2, hr3⟩ := HND.out last row hrow
      have hS2 := (HBR.out.cell (cell_lt HS2.out)).trans HS2.out
      have hSw : S < wr.heap.size := by omega
      obtain ⟨nb, no, ra, rc, e1, hnb0, hnc0, hrcap, hrs⟩ := Sl.cellNs HN.out hrow
      subst e1
      have hnb : nb < wr.heap.size := by omega
      have hnc := (HBR.out.cell (p := ⟨nb, no + last, none⟩) hnb0).trans hnc0
      clear hnc0
      have HRS := Lib.hid hrs
      have HR1 := Lib.hid hr1
      have HR2 := Lib.hid hr2
      clear hpop hrow hr1 hr2 hrs
      obtain ⟨hsr0⟩ : Nonempty (O.SrchIn nd i m q' last []) := ⟨HSR.out.pop⟩
      have HSI := Lib.hid hsr0
      have hk3 : O.offs m + q'.length + 1 ≤ gk := by omega
      have HQN2 := Lib.hid (fun k (hk : k ∈ q') => HQN.out k (by simp [hk]))
      clear hsr0
      go_wp2
      go_loopw [6, 9, 40] (fun s6 _ j wr2 => ∃ (t : Nat) (m : List Bool) (q : List Nat) (qa : Option Addr) (qc : Nat), t ≤ row.length ∧ j = .int .i64 t ∧ s6 = .slice qa q.length qc ∧ OwnN wr2 (w.heap.size + 1) qa qc q ∧ OwnB wr2 w.heap.size (some ⟨w.heap.size, 0, none⟩) n m ∧ m.length = n ∧ O.SrchIn nd i m q last (row.take t) ∧ (∀ k ∈ q, k < n) ∧ O.offs m + q.length + 1 ≤ gk ∧ Below w.heap.size w wr2) (fun _ _ j _ => row.length - (intOf j).toNat)
      case atStart => exact ⟨0, m, q', some ⟨g, 0, none⟩, qc, Nat.zero_le _, rfl, rfl, HP.out, HM.out, hml, HSI.out, HQN2.out, hk3, HBR.out⟩
      case round =>
        clear HP HM HSI HQ hml hcl HSR HQN HQN2 hk3
        obtain ⟨t, m, q, qa, qc, ht, rfl, rfl, hqo, hmo, hml, hsr, hqn, hk4, hbr⟩ := hrel
        have HQ := Lib.hid hqo
        have HM := Lib.hid hmo
        have HSI := Lib.hid hsr
        have HQN := Lib.hid hqn
        have HB2 := Lib.hid hbr
        have hz2 := hbr.size
        clear hqo hmo hsr hqn hbr
        by_cases hlt : t < row.length
        · obtain ⟨k, hk⟩ : ∃ x, row[t]? = some x := ⟨row[t], by simp [hlt]⟩
          have hkn : k < n := HR2.out k (List.mem_of_getElem? hk)
          obtain ⟨x, hx⟩ : ∃ x, m[k]? = some x := ⟨m[k], by simp [hml, hkn]⟩
          have hcx := HM.out.cell hx
          have hfx := HM.out.frozen k
          obtain ⟨rb, ro, e2, hrb, hrc⟩ := Sl.cellN (HRS.out.below stays_RN HB2.out) hk
          subst e2
          have HST := Lib.hid (O.SrchIn.skip (k := k) HSI.out)
          have HPU := Lib.hid (O.SrchIn.push HSI.out (k := k) (by omega) ((HR1.out k).1 (List.mem_of_getElem? hk)))
          have htk : row.take (t + 1) = row.take t ++ [k] := by rw [List.take_add_one, hk]; rfl
          have HTK := Lib.hid htk
          have hoff := O.offs_set m k
          have HOF := Lib.hid hoff
          have HX := Lib.hid hx
          clear hk hx htk hoff
          cases x
          · have HQS := Lib.hid (ownsRow_setCell_below HQ.out (a := ⟨w.heap.size, k, none⟩) (Nat.lt_succ_self _) (.bool true))
            have HMS := Lib.hid (HM.out.stored k true)
            have HBS := Lib.hid (HB2.out.setCell (p := ⟨w.heap.size, k, none⟩) (Nat.le_refl _) (.bool true))
            have hset := HOF.out HX.out
            have hz3 : (wr.setCell ⟨w.heap.size, k, none⟩ (.bool true)).heap.size = wr.heap.size := by simp
            go_wp2_with (at_builtin; refine wpList_append_flat Tryz.infoInt rfl (by decide) rfl (.tmp 52) (.tmp 54) 31 rfl Tryz.underlying31 (w.heap.size + 1) _ _ _ _ rfl (Own.below HQS.out (b1 _ _)) _ _ _ [.int .i64 k] rfl rfl (oneNV (by simp) (.int .i64 k) rfl _) (RV.ones _) (fun e => by cases e) (by omega) (by omega) (by simp; omega) ?_; intro a1 c1 w1 cells1 hown1 hF1 hg1 hB1; have HB1 := Lib.hid hB1; have HO1 := Lib.hid hown1; have HF1 := Lib.hid hF1.rv; clear hg1 hown1 hB1 hF1)
            go_roundw
            case rel =>
              refine ⟨t + 1, m.set k true, q ++ [k], a1, c1, by omega, by go_num, by simp, ?_, ?_, by simp [hml], by rw [HTK.out]; exact HPU.out, fun k' hk' => ?_, by simp; omega, ?_⟩
              · have := HO1.out
                rw [HF1.out] at this
                show Own _ _ _ _ _ _ _ (enN _)
                rw [enN_append]; simpa [enN] using this
              · have h1 : OwnB (_ : World) _ _ _ _ := HMS.out.below (b1 _ (Obj.cells #[.int .i64 k] 3))
                exact Own.same h1 fun g e => by cases e; exact HB1.out.block _ (Nat.lt_succ_self _)
              · rcases List.mem_append.1 hk' with h | h
                · exact HQN.out k' h
                · simp at h; subst h; exact hkn
              · exact (HBS.out.alloc (by rw [hz3]; omega) _).trans (HB1.out.mono (Nat.le_succ _))
            case measure => simp [intOf]; omega
          · go_wp2
            go_roundw
            case rel => exact ⟨t + 1, m, q, qa, qc, by omega, by go_num, rfl, HQ.out, HM.out, hml, by rw [HTK.out]; exact HST.out HX.out, HQN.out, hk4, HB2.out⟩
            case measure => simp [intOf]; omega
        · obtain rfl : t = row.length := by omega
          go_wp2
          go_roundg (gk - 1)
          case measure => omega
          case rel =>
            have hs2 := HSI.out
            rw [List.take_length] at hs2
            exact ⟨m, q, qa, qc, rfl, HQ.out, HM.out, hml, hs2.close (fun k hk => (HR1.out k).2 hk), HQN.out, by omega, by omega, HB2.out⟩
end Go.Proofs.YtnmcajinaigcjaaGreatDoor
namespace Go.Proofs.YtnmcajinaigcjaaGreatDoor
open Go.RowKit
open Q (It Ver Tm Sp Rc Dm)

theorem Tryz.infoInts : (Tryz.prog.info? 31).map (fun i => (i.zero, i.size, i.bytes)) = some (some (.slice none 0 0), 1, 24) := by kernel_rfl
theorem Tryz.infoBools : (Tryz.prog.info? 23).map (fun i => (i.zero, i.size, i.bytes)) = some (some (.slice none 0 0), 1, 24) := by kernel_rfl
/-- what each needs, for the first k -/
def O.needsL (l : List Rc) (ch : List Bool) (k : Nat) : List (List Nat) := (List.range k).map (O.needs l ch)
theorem O.needsL_length (l : List Rc) (ch : List Bool) (k : Nat) : (O.needsL l ch k).length = k := by simp [O.needsL]
theorem O.needsL_succ (l : List Rc) (ch : List Bool) (k : Nat) : O.needsL l ch (k + 1) = O.needsL l ch k ++ [O.needs l ch k] := by simp [O.needsL, List.range_succ]
/-- the sorter's own block -/
def SBk (w : World) (S : Nat) (v0 v1 v2 v3 : Value) : Prop := w.heap[S]? = some (.cells #[v0, v1, v2, v3] 111 (0, 0))
theorem SBk.cells {w : World} {S : Nat} {v0 v1 v2 v3 : Value} (h : SBk w S v0 v1 v2 v3) : S < w.heap.size ∧ w.cell? ⟨S, 0, none⟩ = some v0 ∧ w.cell? ⟨S, 1, none⟩ = some v1 ∧ w.cell? ⟨S, 2, none⟩ = some v2 ∧ w.cell? ⟨S, 3, none⟩ = some v3 ∧ w.frozen? ⟨S, 2, none⟩ = false ∧ w.frozen? ⟨S, 3, none⟩ = false :=
  ⟨(Array.getElem?_eq_some_iff.1 h).1, by rw [cell_of_cells h]; rfl, by rw [cell_of_cells h]; rfl, by rw [cell_of_cells h]; rfl, by rw [cell_of_cells h]; rfl, by simp [World.frozen?, show w.heap[S]? = _ from h], by simp [World.frozen?, show w.heap[S]? = _ from h]⟩
theorem SBk.keep {w w' : World} {S : Nat} {v0 v1 v2 v3 : Value} (h : SBk w S v0 v1 v2 v3) (he : w'.heap[S]? = w.heap[S]?) : SBk w' S v0 v1 v2 v3 := he.trans h
theorem SBk.set2 {w : World} {S : Nat} {v0 v1 v2 v3 : Value} (h : SBk w S v0 v1 v2 v3) (v : Value) : SBk (w.setCell ⟨S, 2, none⟩ v) S v0 v1 v v3 := heap_setCell_same _ _ _ _ _ _ h
theorem SBk.set3 {w : World} {S : Nat} {v0 v1 v2 v3 : Value} (h : SBk w S v0 v1 v2 v3) (v : Value) : SBk (w.setCell ⟨S, 3, none⟩ v) S v0 v1 v2 v := heap_setCell_same _ _ _ _ _ _ h
theorem Ev.setBelow {α : Type} {R : Rd α} {base : Nat} {a : Option Addr} {w : World} {us : List Value} {x : α} (h : Ev R base a w us x) {p : Addr} (hp : p.block < base) (v : Value) : Ev R base a (w.setCell p v) us x := by
  obtain ⟨lo, hi, h1, h2, h3⟩ := h
  exact ⟨lo, hi, h1, h2.keep (by simpa using h2.1) fun b hb _ => Below.heap_setCell _ _ _ _ (by omega), h3⟩
/-- append(ys, x) of one cell, in a region that draws its order, and where the row lies then -/
theorem step_append1At {by' e : Nat} {z : Value} (hinfo : (Tryz.prog.info? e).map (fun i => (i.zero, i.size, i.bytes)) = some (some z, 1, by')) (hzs : z.cells.size = 1)
    {w : World} {ops : Array Oper} {o : Oper} {act : Act} {K : Act → World → Prop} {Q : Exit → Act → World → Prop} {E : Prop} (hgd : o.guard = none) (s x : Operand) (t : TypeId)
    (ho : o.op = .call { callee := .builtin .append, args := #[s, x], argTypes := #[t, t] }) (ht : Tryz.prog.underlying t = some (.slice e))
    (base : Nat) (a : Option Addr) (n c : Nat) (cells : List Value) (hs : act.eval s = .slice a n c) (hown : Own e 1 w base a c n cells)
    (ad : Addr) (v : Value) (hx : act.eval x = .slice (some ad) 1 1) (hz : w.cell? ad = some v) (hv : v.oneCell' = true)
    (hlen : (n + 1) * by' ≤ 140737488355328) (hmax : n + 1 ≤ 17592186043904) (hbase : base ≤ w.heap.size)
    (h : ∀ a' c' w', Own e 1 w' base a' c' (n + 1) (cells ++ [v]) → w.grownBy w' (Value.slice a n c).ownBlock → Below base w w' → (∀ ad', a' = some ad' → (∃ ad, a = some ad ∧ ad.block = ad'.block) ∨ w.heap.size ≤ ad'.block) → K (act.put o.dst (.slice a' (n + 1) c')) w') :
    if Region.wanted o (yielded ops act.tmps) = true then Oper.wp Tryz.prog o act w K Q else E := by
  have hw : Region.wanted o (yielded ops act.tmps) = true := by simp [Region.wanted, hgd]
  rw [if_pos hw]
  obtain ⟨i0, hi, hz0, hz1, hz2⟩ := info_parts hinfo
  obtain ⟨v', w', hr, h2, h3, _, h5⟩ := run_append_own_at (P := Tryz.prog) w base t o.type e i0 z 1 by' ht hi hz0 hz1 hz2 hzs (by decide) _ n cells hown ad 1 1 [v] rfl (by
    intro j u hj
    match j, hj with
    | 0, hj => simp at hj; subst hj; simpa [Addr.add] using hz) (by intro u hu; simp at hu; subst hu; exact hv) (by unfold maxLen; omega) hlen hbase
  unfold Oper.wp execOp
  simp only [ho, resolve, invoke, builtin, Sem.run_bind, Sem.run_pure, Result.andThen_ok, List.map_toArray, List.map_cons, List.map_nil, hs, hx, hr]
  have : ∃ a' c', v' = .slice a' (n + 1) c' := by
    rcases h2.2 with ⟨_, hn⟩ | ⟨g, cap, cur, e, _⟩
    · omega
    · exact ⟨_, _, e⟩
  obtain ⟨a', c', rfl⟩ := this
  refine h a' c' w' h2 h3 ((Below.refl base w).grown h3 hbase (fun k hk => ownBlock_ge hown k _ hk)) fun ad' e1 => ?_
  subst e1
  rcases h5 with h5 | h5
  · cases a with
    | none => cases h5
    | some ad0 => left; exact ⟨ad0, rfl, (Option.some.inj h5).symm⟩
  · right; rw [Option.some.inj (show some ad'.block = some w.heap.size from h5)]; exact Nat.le_refl _
theorem O.reachedTo_succ (nd : Nat → Nat → Bool) (n k : Nat) : O.reachedTo nd n (k + 1) = O.reachedTo nd n k ++ [(List.range n).map fun j => O.rb nd k j] := by simp [O.reachedTo, List.range_succ]
theorem flatZ (w : World) (m : List Bool) : Flat RZ 1 w m (m.map Value.bool) := by
  refine ⟨by simp, fun i x hx => ⟨[.bool x], rfl, fun j hj => ?_, rfl⟩⟩
  obtain rfl : j = 0 := by omega
  simp [hx]
/-- a row of truth values that was just made -/
theorem OwnB.ivr {w : World} {base c n : Nat} {a : Option Addr} {m : List Bool} (h : OwnB w base a c m) (hn : m.length = n) (hm : n ≤ 5864062014805 := by omega) : Iv (RS RZ 1) base w.heap.size w [.slice a n c] m := by
  subst hn
  exact Own.iv (R := RZ) (k := 1) h ((flatZ w m).mono fun _ _ _ h => ⟨Nat.le_refl _, fun _ _ _ => h⟩) (Nat.le_refl _) hm
set_option maxHeartbeats 4000000 in
set_option maxRecDepth 100000 in
theorem onew_any (ad : Addr) (a b : Option Addr) (c e : Nat) (l : List Rc) (ch : List Bool) (w : World) (hR : RIn w a b l ch) (hl : ch.length = l.length) (hm : l.length ≤ 1000) (hE : ErrR w ad) :
    Calls Tryz.prog 24 #[.slice a l.length c, .slice b ch.length e] w fun e' w' => ∃ S na nc ra rc, e' = .returned (.pointer (some ⟨S, 0, none⟩)) ∧ w.heap.size ≤ S ∧ SBk w' S (.slice a l.length c) (.slice b ch.length e) (.slice na l.length nc) (.slice ra l.length rc) ∧
      Sl (RS RN 1) 1 w' na (O.needsL l ch l.length) ∧ SrtR w' S l.length (O.ndB l ch) ra rc ∧ Below w.heap.size w w' := by
  have HR := Lib.hid hR
  have HE := Lib.hid hE
  have HL := Lib.hid hl
  clear hR hE hl
  go_enter Tryz.func24, Tryz.ntmps24
  go_wp2
  go_loopw [6, 14] (fun _ i wr => ∃ (k : Nat) (pa : Option Addr) (pc : Nat) (cells : List Value), k ≤ l.length ∧ i = .int .i64 k ∧ SBk wr w.heap.size (.slice a l.length c) (.slice b ch.length e) (.slice pa k pc) (.slice none 0 0) ∧ Own 31 1 wr (w.heap.size + 1) pa pc k cells ∧ Flat (Ev (RS RN 1) (w.heap.size + 1) pa) 1 wr (O.needsL l ch k) cells ∧ Below w.heap.size w wr) (fun _ i _ => l.length - (intOf i).toNat)
  case atStart => exact ⟨0, none, 0, [], Nat.zero_le _, rfl, heap_new1 _ _, Own.nil _ _ _ _, Flat.nil _ _ _, b1 _ _⟩
  case round =>
    obtain ⟨k, pa, pc, cells, hk, rfl, hsb, hown, hfl, hbr⟩ := hrel
    have HSB := Lib.hid hsb
    have HO := Lib.hid hown
    have HF := Lib.hid hfl
    have HB := Lib.hid hbr
    have hz := hbr.size
    obtain ⟨hSl, s0, s1, s2, s3, f2, f3⟩ := hsb.cells
    clear hsb hown hfl hbr
    by_cases hlt : k < l.length
    · go_wp2_with fail
      have hpl : (⟨w.heap.size, 2, none⟩ : Addr).block < w.heap.size + 1 := Nat.lt_succ_self _
      have HCL := Lib.hid (oneeds_any ad a b c e l ch k wr.drew ((HR.out.below HB.out).below ((Below.refl _ _).drew)) HL.out hlt (by omega) ((HE.out.below HB.out).below ((Below.refl _ _).drew)))
      go_region_law
        (first
        | (go_simp; go_at_call 10; (with_reducible refine HCL.out.mono ?_); rintro e1 w2 ⟨a', c', rfl, hiv, hb⟩; have hW2 : Below wr.heap.size wr w2 := ((Below.refl _ _).drew).trans hb; have HW2 := Lib.hid hW2; have HIV := Lib.hid hiv; have HO2 := Lib.hid (HO.out.below hW2); have p0 : w2.cell? ⟨w.heap.size, 2, none⟩ = some (.slice pa k pc) := (hW2.cell (p := ⟨w.heap.size, 2, none⟩) hSl).trans s2; have p1 : w2.frozen? ⟨w.heap.size, 2, none⟩ = false := (hW2.frozen (p := ⟨w.heap.size, 2, none⟩) hSl).trans f2; have HPK := Lib.hid (fun (o : Obj) => And.intro (((b1 w2 o).cell (p := ⟨w.heap.size, 2, none⟩) (Nat.lt_of_lt_of_le hSl hW2.size)).trans p0) (((b1 w2 o).frozen (p := ⟨w.heap.size, 2, none⟩) (Nat.lt_of_lt_of_le hSl hW2.size)).trans p1)); have hz2 := hW2.size; have hS2 : w.heap.size < w2.heap.size := Nat.lt_of_lt_of_le hSl hz2; clear hb hW2 hiv)
        | (refine step_append1At Tryz.infoInts rfl rfl (.tmp 21) (.tmp 26) 26 rfl Tryz.underlying26 (w.heap.size + 1) pa k pc cells rfl (HO2.out.below (b1 _ _)) _ (.slice a' (O.needs l ch k).length c') rfl ?_ rfl (by omega) (by omega) (by simp; omega) ?_; (focus (simp; done)); intro a3 c3 w3 hO3 hG3 hB3 hat3; have q0 : w3.cell? ⟨w.heap.size, 2, none⟩ = some (.slice pa k pc) := (hB3.cell hpl).trans ((World.cell?_alloc_lt _ _ _ (by show w.heap.size < _; omega)).trans p0); have q1 : w3.frozen? ⟨w.heap.size, 2, none⟩ = false := (hB3.frozen hpl).trans (((b1 _ _).frozen (p := ⟨w.heap.size, 2, none⟩) (by show w.heap.size < _; omega)).trans p1); have HO3 := Lib.hid hO3; have HG3 := Lib.hid hG3; have HB3 := Lib.hid hB3; have HAT := Lib.hid hat3; clear hO3 hG3 hB3 hat3))
      all_goals
        go_wp2
        go_roundw
        case rel =>
          have hW2a := (b1 w2 (Obj.cells #[.slice a' (O.needs l ch k).length c'] 31))
          refine ⟨k + 1, a3, c3, cells ++ [.slice a' (O.needs l ch k).length c'], by omega, by go_num, ?_, ownsRow_setCell_below HO3.out hpl _, ?_, ?_⟩
          · exact (((HSB.out.keep (HW2.out.block _ hSl)).keep (hW2a.block _ hS2)).keep (HB3.out.block _ hpl)).set2 _
          · rw [O.needsL_succ]
            refine Flat.append (HF.out.mono fun us y _ h => (((h.below HW2.out).below (b1 _ _)).grown HG3.out HAT.out).setBelow hpl _) (Flat.one ?_)
            exact (Ev.fresh HIV.out (b1 _ _) (show w.heap.size + 1 ≤ wr.heap.size by omega) (fun ad e => (HO.out.tag ad e).2.1) HG3.out HAT.out).setBelow hpl _
          · exact (((fin HB.out HW2.out).alloc (fin HB.out HW2.out).size _).trans (HB3.out.mono (Nat.le_succ _))).setCell (p := ⟨w.heap.size, 2, none⟩) (Nat.le_refl _) _
        case measure => simp [intOf]; omega
    · obtain rfl : k = l.length := by omega
      have hniv := Own.iv (xs := O.needsL l ch l.length) (by rw [O.needsL_length]; exact HO.out) (HF.out.mono fun _ _ _ h => h.iv) (Nat.le_refl _) (by rw [O.needsL_length]; omega)
      rw [O.needsL_length] at hniv
      have HNI := Lib.hid hniv
      clear hniv
      go_wp2
      obtain ⟨W, hW⟩ : ∃ x, x = wr := ⟨_, rfl⟩
      subst hW
      go_loopw [7, 33] (fun _ i wr => ∃ (k : Nat) (ra : Option Addr) (rc : Nat) (cells2 : List Value), k ≤ l.length ∧ i = .int .i64 k ∧ SBk wr w.heap.size (.slice a l.length c) (.slice b ch.length e) (.slice pa l.length pc) (.slice ra k rc) ∧ Iv (RS (RS RN 1) 1) (w.heap.size + 1) W.heap.size wr [.slice pa l.length pc] (O.needsL l ch l.length) ∧ Own 23 1 wr W.heap.size ra rc k cells2 ∧ Flat (Ev (RS RZ 1) W.heap.size ra) 1 wr (O.reachedTo (O.ndB l ch) l.length k) cells2 ∧ Below w.heap.size w wr) (fun _ i _ => l.length - (intOf i).toNat)
      case atStart => exact ⟨0, none, 0, [], Nat.zero_le _, rfl, HSB.out, HNI.out, Own.nil _ _ _ _, Flat.nil _ _ _, HB.out⟩
      case round =>
        clear HSB HO HF HB HNI
        obtain ⟨k, ra, rc, cells2, hk, rfl, hsb, hni, hown, hfl, hbr⟩ := hrel
        have HSB := Lib.hid hsb
        have HNI := Lib.hid hni
        have HO := Lib.hid hown
        have HF := Lib.hid hfl
        have HB := Lib.hid hbr
        have hz4 := hbr.size
        obtain ⟨hSl2, u0, u1, u2, u3, g2, g3⟩ := hsb.cells
        clear hsb hni hown hfl hbr
        by_cases hlt : k < l.length
        · obtain ⟨pa', pc', e1, _, hns⟩ := HNI.out.read
          rw [O.needsL_length] at e1
          cases e1
          have HRC := Lib.hid (oreach_any w.heap.size a pa c pc l.length (O.ndB l ch) (O.needsL l ch l.length) k wr.drew u0 u2 (hns.below (stays_RS stays_RN) ((Below.refl _ _).drew)) (O.needsL_length _ _ _) (by
            intro j row hrow
            have hj : j < l.length := by have := (List.getElem?_eq_some_iff.1 hrow).1; rwa [O.needsL_length] at this
            have e2 : row = O.needs l ch j := by simpa [O.needsL, hj] using hrow.symm
            subst e2
            exact ⟨fun k => O.mem_needs, fun k hk => (O.hnd l ch j k (O.mem_needs.1 hk)).2.1, O.needs_length l ch j⟩) hlt (by omega))
          clear hns
          go_wp2_with fail
          have hWz : W.heap.size ≤ wr.heap.size := HNI.out.1
          have hpl : (⟨w.heap.size, 3, none⟩ : Addr).block < W.heap.size := hSl
          go_region_law
            (first
            | (go_simp; go_at_call 51; (with_reducible refine HRC.out.mono ?_); rintro e1 w2 ⟨g, rfl, hob, hb⟩; have hW2 : Below wr.heap.size wr w2 := ((Below.refl _ _).drew).trans hb; have HW2 := Lib.hid hW2; have HOB := Lib.hid hob; have HO2 := Lib.hid (HO.out.below hW2); have p0 : w2.cell? ⟨w.heap.size, 3, none⟩ = some (.slice ra k rc) := (hW2.cell (p := ⟨w.heap.size, 3, none⟩) hSl2).trans u3; have p1 : w2.frozen? ⟨w.heap.size, 3, none⟩ = false := (hW2.frozen (p := ⟨w.heap.size, 3, none⟩) hSl2).trans g3; have hz2 := hW2.size; have hS2 : w.heap.size < w2.heap.size := Nat.lt_of_lt_of_le hSl2 hz2; clear hb hW2 hob)
            | (refine step_append1At Tryz.infoBools rfl rfl (.tmp 40) (.tmp 44) 85 rfl Tryz.underlying85 W.heap.size ra k rc cells2 rfl (HO2.out.below (b1 _ _)) _ (.slice (some ⟨g, 0, none⟩) l.length l.length) rfl ?_ rfl (by omega) (by omega) (by simp; omega) ?_; (focus (simp; done)); intro a3 c3 w3 hO3 hG3 hB3 hat3; have q0 : w3.cell? ⟨w.heap.size, 3, none⟩ = some (.slice ra k rc) := (hB3.cell hpl).trans ((World.cell?_alloc_lt _ _ _ (by show w.heap.size < _; omega)).trans p0); have q1 : w3.frozen? ⟨w.heap.size, 3, none⟩ = false := (hB3.frozen hpl).trans (((b1 _ _).frozen (p := ⟨w.heap.size, 3, none⟩) (by show w.heap.size < _; omega)).trans p1); have HO3 := Lib.hid hO3; have HG3 := Lib.hid hG3; have HB3 := Lib.hid hB3; have HAT := Lib.hid hat3; clear hO3 hG3 hB3 hat3))
          all_goals
            go_wp2
            go_roundw
            case rel =>
              have hW2a := (b1 w2 (Obj.cells #[.slice (some ⟨g, 0, none⟩) l.length l.length] 23))
              refine ⟨k + 1, a3, c3, cells2 ++ [.slice (some ⟨g, 0, none⟩) l.length l.length], by omega, by go_num, ?_, ?_, ownsRow_setCell_below HO3.out hpl _, ?_, ?_⟩
              · exact (((HSB.out.keep (HW2.out.block _ hSl2)).keep (hW2a.block _ hS2)).keep (HB3.out.block _ hpl)).set3 _
              · have hsz : W.heap.size ≤ w3.heap.size := by have := HG3.out.size; have h5 : (w2.alloc (Obj.cells #[.slice (some ⟨g, 0, none⟩) l.length l.length] 23)).heap.size = w2.heap.size + 1 := by simp
                                                            omega
                refine HNI.out.keep (by simpa using hsz) fun b hb1 hb2 => ?_
                rw [Below.heap_setCell _ _ _ _ (show b ≠ w.heap.size by omega), HB3.out.block _ hb2, hW2a.block _ (by omega), HW2.out.block _ (by omega)]
              · rw [O.reachedTo_succ]
                refine Flat.append (HF.out.mono fun us y _ h => (((h.below HW2.out).below (b1 _ _)).grown HG3.out HAT.out).setBelow hpl _) (Flat.one ?_)
                refine (Ev.fresh ?_ (b1 _ _) (show W.heap.size ≤ wr.heap.size by omega) (fun ad e => (HO.out.tag ad e).2.1) HG3.out HAT.out).setBelow hpl _
                exact OwnB.ivr HOB.out (by simp)
              · exact (((fin HB.out HW2.out).alloc (fin HB.out HW2.out).size _).trans (HB3.out.mono (by omega))).setCell (p := ⟨w.heap.size, 3, none⟩) (Nat.le_refl _) _
            case measure => simp [intOf]; omega
        · obtain rfl : k = l.length := by omega
          go_wp2
          go_ret
          have hriv := Own.iv (xs := O.reachedTo (O.ndB l ch) l.length l.length) (by rw [O.reachedTo_length]; exact HO.out) (HF.out.mono fun _ _ _ h => h.iv) (Nat.le_refl _) (by rw [O.reachedTo_length]; omega)
          rw [O.reachedTo_length] at hriv
          obtain ⟨a1, c1, e1, _, h1⟩ := HNI.out.read
          obtain ⟨a2, c2, e2, _, h2⟩ := hriv.read
          rw [O.needsL_length] at e1
          rw [O.reachedTo_length] at e2
          cases e1
          cases e2
          exact ⟨w.heap.size, pa, pc, ra, rc, rfl, Nat.le_refl _, HSB.out, h1, ⟨HSB.out.cells.2.2.2.2.1, h2⟩, HB.out⟩
end Go.Proofs.YtnmcajinaigcjaaGreatDoor
namespace Go.Proofs.YtnmcajinaigcjaaGreatDoor
open Go.RowKit
open Q (It Ver Tm Sp Rc Dm)

/-- a row: its block, its capacity, its places -/
abbrev Hd := Nat × Nat × List Nat
def RowV (x : Hd) : Value := .slice (some ⟨x.1, 0, none⟩) x.2.2.length x.2.1
structure Rows (w : World) (base : Nat) (ra : Option Addr) (rc : Nat) (xs : List Hd) : Prop where
  hd : Own 31 1 w base ra rc xs.length (xs.map RowV)
  row : ∀ x ∈ xs, OwnN w base (some ⟨x.1, 0, none⟩) x.2.1 x.2.2
  off : ∀ x ∈ xs, ∀ ad, ra = some ad → ad.block ≠ x.1
  nd : (xs.map (·.1)).Nodup
theorem Rows.nil (w : World) (base : Nat) : Rows w base none 0 [] := ⟨Own.nil _ _ _ _, by simp, by simp, by simp⟩
theorem Rows.below {w w' : World} {base : Nat} {ra : Option Addr} {rc : Nat} {xs : List Hd} (h : Rows w base ra rc xs) (hb : Below w.heap.size w w') : Rows w' base ra rc xs :=
  ⟨h.hd.below hb, fun x hx => (h.row x hx).below hb, h.off, h.nd⟩
theorem Rows.keep {w w' : World} {base : Nat} {ra : Option Addr} {rc : Nat} {xs : List Hd} (h : Rows w base ra rc xs) (he : ∀ b, base ≤ b → b < w.heap.size → w'.heap[b]? = w.heap[b]?) : Rows w' base ra rc xs := by
  refine ⟨Own.same h.hd fun g e => ?_, fun x hx => Own.same (h.row x hx) fun g e => ?_, h.off, h.nd⟩
  · have := h.hd.tag _ e; exact he g this.1 this.2.1
  · have := (h.row x hx).tag _ e; exact he g this.1 this.2.1
theorem Rows.lt {w : World} {base : Nat} {ra : Option Addr} {rc : Nat} {xs : List Hd} (h : Rows w base ra rc xs) {x : Hd} (hx : x ∈ xs) : base ≤ x.1 ∧ x.1 < w.heap.size := by
  have := (h.row x hx).tag _ rfl; exact ⟨this.1, this.2.1⟩
theorem Rows.cell {w : World} {base : Nat} {ra : Option Addr} {rc : Nat} {xs : List Hd} (h : Rows w base ra rc xs) {k : Nat} {x : Hd} (hx : xs[k]? = some x) : ∃ g, ra = some ⟨g, 0, none⟩ ∧ g < w.heap.size ∧ base ≤ g ∧ w.cell? ⟨g, k, none⟩ = some (RowV x) ∧ w.frozen? ⟨g, k, none⟩ = false := by
  obtain ⟨g, rfl, h2, h3, h4⟩ := Own.cell h.hd (i := k) (v := RowV x) (by simp [hx])
  refine ⟨g, rfl, h2, h3, h4, ?_⟩
  obtain ⟨_, _, cur, m, hg⟩ := h.hd.tag _ rfl
  rcases h.hd.parts with ⟨e, _⟩ | ⟨g', cur', e, _, _, hg', _⟩
  · cases e
  · cases e; simp [World.frozen?, hg']
/-- a row's places as cells -/
theorem Rows.place {w : World} {base : Nat} {ra : Option Addr} {rc : Nat} {xs : List Hd} (h : Rows w base ra rc xs) {x : Hd} (hx : x ∈ xs) {i k : Nat} (hk : x.2.2[i]? = some k) : w.cell? ⟨x.1, i, none⟩ = some (.int .i64 (k : Int)) := by
  obtain ⟨g, e, _, _, h4⟩ := Own.cell (h.row x hx) (i := i) (v := .int .i64 (k : Int)) (enN_get hk)
  cases e; exact h4
theorem Rows.head {w : World} {base : Nat} {ra : Option Addr} {rc : Nat} {xs : List Hd} (h : Rows w base ra rc xs) {x : Hd} (hx : x ∈ xs) (hne : x.2.2 ≠ []) : w.cell? ⟨x.1, 0, none⟩ = some (.int .i64 (O.hd x.2.2 : Int)) := by
  refine h.place hx ?_
  cases e : x.2.2 with
  | nil => exact absurd e hne
  | cons y t => simp [O.hd]
/-- one more row, just made, behind the append of its header -/
theorem Rows.push {w w3 : World} {base : Nat} {ra a3 : Option Addr} {rc c3 i : Nat} {xs : List Hd} (h : Rows w base ra rc xs) {o : Obj} (hbase : base ≤ w.heap.size)
    (hO : Own 31 1 w3 base a3 c3 (xs.length + 1) (xs.map RowV ++ [.slice (some ⟨w.heap.size, 0, none⟩) 1 1]))
    (hg : ((w.alloc (Obj.cells #[.int .i64 (i : Int)] 3)).alloc o).grownBy w3 (Value.slice ra xs.length rc).ownBlock)
    (hat : ∀ ad', a3 = some ad' → (∃ ad, ra = some ad ∧ ad.block = ad'.block) ∨ ((w.alloc (Obj.cells #[.int .i64 (i : Int)] 3)).alloc o).heap.size ≤ ad'.block) :
    Rows w3 base a3 c3 (xs ++ [(w.heap.size, 1, [i])]) := by
  have hb : Below w.heap.size w ((w.alloc (Obj.cells #[.int .i64 (i : Int)] 3)).alloc o) := (b1 _ _).alloc (by simp) _
  have hold : ∀ x ∈ xs, w3.heap[x.1]? = w.heap[x.1]? := fun x hx => by
    have := h.lt hx
    rw [hg.block x.1 (Nat.lt_of_lt_of_le this.2 hb.size) (row_ne fun ad e => h.off x hx ad e)]
    exact hb.block _ this.2
  have hsz : ((w.alloc (Obj.cells #[.int .i64 (i : Int)] 3)).alloc o).heap.size = w.heap.size + 2 := by simp
  refine ⟨?_, fun x hx => ?_, fun x hx ad e => ?_, ?_⟩
  · rw [List.length_append, List.map_append]; exact hO
  · rcases List.mem_append.1 hx with h1 | h1
    · exact Own.same (h.row x h1) fun g e => by cases e; exact hold x h1
    · simp at h1; subst h1
      have h0 : OwnN (w.alloc (Obj.cells #[.int .i64 (i : Int)] 3)) base (some ⟨w.heap.size, 0, none⟩) 1 [i] :=
        ⟨by simp [enN], .inr ⟨w.heap.size, 1, #[.int .i64 (i : Int)], rfl, hbase, heap_new1 _ _, by simp, by unfold maxLen; omega, by simp, by simp [enN]⟩⟩
      refine Own.same (h0.below (b1 _ o)) fun g e => ?_
      cases e
      refine hg.block _ (by rw [hsz]; omega) (row_ne fun ad e => ?_)
      have := (h.hd.tag ad e).2.1
      omega
  · rcases List.mem_append.1 hx with h1 | h1
    · rcases hat ad e with ⟨ad0, e1, e2⟩ | h2
      · rw [← e2]; exact h.off x h1 ad0 e1
      · have := (h.lt h1).2; omega
    · simp at h1; subst h1
      rcases hat ad e with ⟨ad0, e1, e2⟩ | h2
      · rw [← e2]; have := (h.hd.tag ad0 e1).2.1; show _ ≠ w.heap.size; omega
      · show _ ≠ w.heap.size; omega
  · rw [List.map_append, List.nodup_append]
    refine ⟨h.nd, by simp, fun a ha b hb e => ?_⟩
    obtain ⟨x, hx, rfl⟩ := List.mem_map.1 ha
    simp at hb; subst hb
    have := (h.lt hx).2; omega
/-- one row turned: its header in its place -/
theorem Rows.turn {w w' : World} {base : Nat} {ra : Option Addr} {rc p : Nat} {xs : List Hd} {x y : Hd} (h : Rows w base ra rc xs) (hx : xs[p]? = some x)
    (hO : Own 31 1 w' base ra rc xs.length ((xs.map RowV).set p (RowV y))) (hy : OwnN w' base (some ⟨y.1, 0, none⟩) y.2.1 y.2.2)
    (he : ∀ b, b < w.heap.size → b ≠ x.1 → (∀ ad, ra = some ad → ad.block ≠ b) → w'.heap[b]? = w.heap[b]?) (hn : y.1 = x.1 ∨ w.heap.size ≤ y.1) : Rows w' base ra rc (xs.set p y) := by
  have hxm := List.mem_of_getElem? hx
  have hpl : p < xs.length := (List.getElem?_eq_some_iff.1 hx).1
  have hother : ∀ z ∈ xs.set p y, z = y ∨ (z ∈ xs ∧ z.1 ≠ x.1) := by
    intro z hz
    obtain ⟨q, hq⟩ := List.getElem?_of_mem hz
    rw [List.getElem?_set] at hq
    by_cases e : p = q
    · subst e; simp [hpl] at hq; exact .inl hq.symm
    · rw [if_neg e] at hq
      refine .inr ⟨List.mem_of_getElem? hq, fun e1 => e ?_⟩
      have hql : q < xs.length := (List.getElem?_eq_some_iff.1 hq).1
      have h1 : (xs.map (·.1))[p]'(by simpa using hpl) = (xs.map (·.1))[q]'(by simpa using hql) := by
        rw [List.getElem_map, List.getElem_map, (List.getElem?_eq_some_iff.1 hx).2, (List.getElem?_eq_some_iff.1 hq).2, e1]
      exact (List.getElem_inj h.nd).1 h1
  refine ⟨?_, fun z hz => ?_, fun z hz ad e => ?_, ?_⟩
  · rw [List.length_set, List.map_set]; exact hO
  · rcases hother z hz with rfl | ⟨h1, h2⟩
    · exact hy
    · exact Own.same (h.row z h1) fun g e => by cases e; exact he _ (h.lt h1).2 h2 (h.off z h1)
  · rcases hother z hz with rfl | ⟨h1, h2⟩
    · rcases hn with hn | hn
      · rw [hn]; exact h.off x hxm ad e
      · have := (h.hd.tag ad e).2.1; omega
    · exact h.off z h1 ad e
  · rw [List.map_set]
    rcases hn with hn | hn
    · rw [hn]
      have : (xs.map (·.1)).set p x.1 = xs.map (·.1) := by
        apply List.ext_getElem?; intro q; rw [List.getElem?_set]
        by_cases e : p = q
        · subst e; simp [hpl, (List.getElem?_eq_some_iff.1 hx).2]
        · rw [if_neg e]
      rw [this]; exact h.nd
    · rw [List.nodup_iff_pairwise_ne, List.pairwise_iff_getElem]
      intro i j hi hj hij
      have hq := List.pairwise_iff_getElem.1 (List.nodup_iff_pairwise_ne.1 h.nd) i j (by simpa using hi) (by simpa using hj) hij
      have hlt : ∀ (q : Nat) (hq : q < (xs.map (·.1)).length), (xs.map (·.1))[q] < w.heap.size := fun q hq => by
        rw [List.getElem_map]; exact (h.lt (List.getElem_mem _)).2
      rw [List.getElem_set, List.getElem_set]
      split
      · split
        · omega
        · have := hlt j (by simpa using hj); omega
      · split
        · have := hlt i (by simpa using hi); omega
        · exact hq
end Go.Proofs.YtnmcajinaigcjaaGreatDoor
namespace Go.Proofs.YtnmcajinaigcjaaGreatDoor
open Go.RowKit
open Q (It Ver Tm Sp Rc Dm)

set_option maxHeartbeats 2000000 in
set_option maxRecDepth 100000 in
theorem orings1_any (S A B n : Nat) (nd : Nat → Nat → Bool) (ra : Option Addr) (rc i j g m c : Nat) (w : World) (h : SrtR w S n nd ra rc) (hA : w.cell? ⟨A, 0, none⟩ = some (.pointer (some ⟨S, 0, none⟩))) (hB : w.cell? ⟨B, 0, none⟩ = some (.int .i64 (j : Int)))
    (hg : w.cell? ⟨g, 0, none⟩ = some (.int .i64 (i : Int))) (hm : 0 < m) (hi : i < n) (hj : j < n) :
    Calls Tryz.prog 53 #[.slice (some ⟨g, 0, none⟩) m c, .pointer (some ⟨A, 0, none⟩), .pointer (some ⟨B, 0, none⟩)] w fun e w' => e = .returned (.bool (O.same nd i j)) ∧ ∃ q, w' = w.drewN q := by
  have HS := Lib.hid h
  have z1 : (0 : Int) < (m : Int) := by omega
  have n1 : decide (0 < (m : Int)) = true := decide_eq_true z1
  clear h
  go_enter Tryz.func53, Tryz.ntmps53
  go_wp2
  go_region_held3 (fun w' => w'.cell? ⟨A, 0, none⟩ = some (.pointer (some ⟨S, 0, none⟩)) ∧ w'.cell? ⟨B, 0, none⟩ = some (.int .i64 (j : Int)) ∧ w'.cell? ⟨g, 0, none⟩ = some (.int .i64 (i : Int)))
    (first | go_keep)
    (first
    | (go_at_call 54; (with_reducible refine (osame_any S n nd ra rc i j _ (HS.out.below ((Below.refl _ _).drew)) hi hj).mono ?_); rintro e w2 ⟨rfl, rfl⟩))
  go_wp2
  go_ret
  exact ⟨rfl, _, rfl⟩
/-- where a place's ring stands, if it stands -/
def SpotOf (rs : List (List Nat)) (nd : Nat → Nat → Bool) (i : Nat) (w : World) (e : Ending) (w' : World) : Prop :=
  ∃ p : Int, e = .returned (.int .i64 p) ∧ (∃ q, w' = w.drewN q) ∧ ((p = -1 ∧ ∀ r ∈ rs, O.same nd (O.hd r) i = false) ∨ ∃ (k : Nat) (r : List Nat), p = (k : Int) ∧ rs[k]? = some r ∧ O.same nd (O.hd r) i = true)
set_option maxHeartbeats 2000000 in
set_option maxRecDepth 100000 in
theorem oindex_any (S A B n base : Nat) (nd : Nat → Nat → Bool) (ra xa : Option Addr) (rc xc j : Nat) (xs : List Hd) (w : World) (h : SrtR w S n nd ra rc) (hA : w.cell? ⟨A, 0, none⟩ = some (.pointer (some ⟨S, 0, none⟩))) (hB : w.cell? ⟨B, 0, none⟩ = some (.int .i64 (j : Int)))
    (hX : Rows w base xa xc xs) (hx : ∀ x ∈ xs, x.2.2 ≠ [] ∧ O.hd x.2.2 < n) (hj : j < n) (hm : xs.length ≤ 1000000) :
    Calls Tryz.prog 52 #[.slice xa xs.length xc, .func (.func 53) #[] #[.pointer (some ⟨A, 0, none⟩), .pointer (some ⟨B, 0, none⟩)]] w (SpotOf (xs.map (·.2.2)) nd j w) := by
  have HS := Lib.hid h
  have HX := Lib.hid hX
  have HE := Lib.hid hx
  have HA := Lib.hid hA
  have HB := Lib.hid hB
  clear h hX hx hA hB
  go_enter Tryz.func52, Tryz.ntmps52
  go_wp2
  go_loopw [5, 8] (fun _ i wr => ∃ k : Nat, k ≤ xs.length ∧ i = .int .i64 k ∧ (∀ x ∈ xs.take k, O.same nd (O.hd x.2.2) j = false) ∧ ∃ q, wr = w.drewN q) (fun _ i _ => xs.length - (intOf i).toNat)
  case atStart => exact ⟨0, Nat.zero_le _, rfl, by simp, 0, rfl⟩
  case round =>
    obtain ⟨k, hk, rfl, hf, q, rfl⟩ := hrel
    have HF := Lib.hid hf
    have HD := Lib.hid (bDr (q := q) (Below.refl w.heap.size w))
    clear hf
    by_cases hlt : k < xs.length
    · obtain ⟨⟨g, c, r⟩, hx⟩ : ∃ x, xs[k]? = some x := ⟨xs[k], by simp [hlt]⟩
      have hxm := List.mem_of_getElem? hx
      obtain ⟨hr1, hr2⟩ := HE.out _ hxm
      have hhd := (HX.out.below HD.out).head hxm hr1
      obtain ⟨xg, rfl, hxl, _, hxc, _⟩ := (HX.out.below HD.out).cell hx
      have hrl : 0 < r.length := List.length_pos_iff.2 hr1
      unfold RowV at hxc
      have HXX := Lib.hid hx
      clear hx hxm hr1
      go_wp2_with fail
      (with_reducible refine (orings1_any S A B n nd ra rc (O.hd r) j g r.length c _ (HS.out.below HD.out) ((HD.out.cell (cell_lt HA.out)).trans HA.out) ((HD.out.cell (cell_lt HB.out)).trans HB.out) hhd hrl hr2 hj).mono ?_)
      rintro e w2 ⟨rfl, q2, rfl⟩
      generalize hs : O.same nd (O.hd r) j = v
      have HSA := Lib.hid hs
      clear hs
      cases v
      · go_wp2
        go_roundw
        case rel =>
          refine ⟨k + 1, by omega, by go_num, fun x hx => ?_, q + q2, rfl⟩
          rw [List.take_add_one, HXX.out] at hx
          rcases List.mem_append.1 hx with h1 | h1
          · exact HF.out x h1
          · simp at h1; subst h1; exact HSA.out
        case measure => simp [intOf]; omega
      · go_wp2
        go_ret
        exact ⟨k, rfl, ⟨q + q2, rfl⟩, .inr ⟨k, r, rfl, by rw [List.getElem?_map, HXX.out]; rfl, HSA.out⟩⟩
    · go_wp2
      go_ret
      refine ⟨-1, rfl, ⟨q, rfl⟩, .inl ⟨rfl, fun r hr => ?_⟩⟩
      obtain ⟨x, hx, rfl⟩ := List.mem_map.1 hr
      have h1 := HF.out
      rw [List.take_of_length_le (by omega)] at h1
      exact h1 x hx
end Go.Proofs.YtnmcajinaigcjaaGreatDoor
namespace Go.Proofs.YtnmcajinaigcjaaGreatDoor
open Go.RowKit
open Q (It Ver Tm Sp Rc Dm)

theorem omZero (w : World) : (zeroValue 3).run Tryz.prog w = .ok (.int .i64 0) w := by kernel_rfl
theorem omKeyed : Go.Maps.Keyed Tryz.prog 3 := Go.Maps.int_keyed Tryz.underlying3
theorem omKey (x : Nat) (h : x ≤ 9223372036854775807) : keyOf Tryz.prog 3 (.int .i64 (x : Int)) = some (.int .i64 (x : Int)) := Go.Maps.keyOf_int_mk Tryz.underlying3 (by simp [Lit.wf, IntKind.min, IntKind.max, IntKind.signed, IntKind.bits]; omega)
/-- block B is a map: m entries, at x it holds f x -/
def MapN (w : World) (B k m : Nat) (f : Nat → Option Nat) : Prop :=
  ∃ D : DataW Unit, w.ownsMap Tryz.prog 3 (plainElem Tryz.prog 3) B k D ∧ Maps.size D = m ∧ ∀ x : Nat, Maps.has D (.int .i64 (x : Int)) = (f x).isSome ∧ D.atKey (.int .i64 (x : Int)) (.lit (.int .i64 0)) = .lit (.int .i64 (((f x).getD 0 : Nat) : Int))
def fput (f : Nat → Option Nat) (x v : Nat) : Nat → Option Nat := fun y => if y = x then some v else f y
theorem MapN.made (w : World) : MapN (w.alloc (.map #[] 0)) w.heap.size 0 0 fun _ => none :=
  ⟨_, World.ownsMap_made w _ _ _, rfl, fun _ => ⟨rfl, rfl⟩⟩
theorem MapN.lt {w : World} {B k m : Nat} {f : Nat → Option Nat} (h : MapN w B k m f) : B < w.heap.size := by obtain ⟨D, h1, _⟩ := h; exact h1.lt
theorem MapN.kept {w w' : World} {B k m : Nat} {f : Nat → Option Nat} {row : Option Nat} (h : MapN w B k m f) (hg : w.grownBy w' row) (hne : some B ≠ row) : MapN w' B k m f := by
  obtain ⟨D, h1, h2⟩ := h; exact ⟨D, h1.kept hg hne, h2⟩
theorem MapN.below {w w' : World} {B k m : Nat} {f : Nat → Option Nat} (h : MapN w B k m f) (hb : Below w.heap.size w w') : MapN w' B k m f :=
  h.kept (row := none) ⟨hb.os, hb.tape, hb.output, hb.size, fun k hk _ => hb.block k hk⟩ (by simp)
section
variable {w : World} {ops : Array Oper} {rest : List Oper} {o : Oper} {act : Act} {Q : Exit → Act → World → Prop}
/-- v, ok := m[x] -/
theorem wpList_look2 (hg : o.guard = none) (a b : Operand) (hop : o.op = Op.lookup 76 a b true) {B k m : Nat} {f : Nat → Option Nat} (hm : act.eval a = .map (some B)) (h : MapN w B k m f) (x : Nat) (hx : act.eval b = .int .i64 (x : Int)) (hx2 : x ≤ 9223372036854775807)
    (hK : wpList Tryz.prog ops Q rest (act.put o.dst (.tuple #[.int .i64 (((f x).getD 0 : Nat) : Int), .bool (f x).isSome])) w) : wpList Tryz.prog ops Q (o :: rest) act w := by
  obtain ⟨D, h1, _, h2⟩ := h
  refine wpList_lookup_own_ok_int w hg a b 76 hop 3 3 .i64 omKeyed Tryz.underlying76 Tryz.underlying3 (omZero _) B _ D hm h1 _ _ hx (omKey x hx2) fun c hc _ => ?_
  have e := (h2 x).2.symm.trans hc
  have e1 : (((f x).getD 0 : Nat) : Int) = c := by injection e with e; injection e
  rw [(h2 x).1, ← e1]; exact hK
/-- m[x] -/
theorem wpList_look1 (hg : o.guard = none) (a b : Operand) (hop : o.op = Op.lookup 76 a b false) {B k m : Nat} {f : Nat → Option Nat} (hm : act.eval a = .map (some B)) (h : MapN w B k m f) (x : Nat) (hx : act.eval b = .int .i64 (x : Int)) (hx2 : x ≤ 9223372036854775807)
    (hK : wpList Tryz.prog ops Q rest (act.put o.dst (.int .i64 (((f x).getD 0 : Nat) : Int))) w) : wpList Tryz.prog ops Q (o :: rest) act w := by
  obtain ⟨D, h1, _, h2⟩ := h
  refine wpList_lookup_own_int w hg a b 76 hop 3 3 .i64 omKeyed Tryz.underlying76 Tryz.underlying3 (omZero _) B _ D hm h1 _ _ hx (omKey x hx2) fun c hc _ => ?_
  have e := (h2 x).2.symm.trans hc
  have e1 : (((f x).getD 0 : Nat) : Int) = c := by injection e with e; injection e
  rw [← e1]; exact hK
/-- m[x] = v -/
theorem wpList_put1 (hg : o.guard = none) (a b c : Operand) (hop : o.op = Op.mapUpdate 76 a b c) {B k m : Nat} {f : Nat → Option Nat} (hm : act.eval a = .map (some B)) (h : MapN w B k m f) (hk : k < 4611686018427387904) (x v : Nat) (hx : act.eval b = .int .i64 (x : Int)) (hv : act.eval c = .int .i64 (v : Int)) (hx2 : x ≤ 9223372036854775807) (hv2 : v ≤ 9223372036854775807)
    (hK : ∀ w', MapN w' B (k + 1) (if (f x).isSome then m else m + 1) (fput f x v) → w.grownBy w' (some B) → wpList Tryz.prog ops Q rest (act.put o.dst undef) w') : wpList Tryz.prog ops Q (o :: rest) act w := by
  obtain ⟨D, h1, h0, h2⟩ := h
  refine wpList_mapUpdate_own w hg a b c 76 hop 3 3 omKeyed Tryz.underlying76 (plainElem Tryz.prog 3) B k D hm h1 (by unfold maxLen; omega) _ _ _ hx hv (omKey x hx2) (.lit (.int .i64 (v : Int))) [] (plainElem_int Tryz.underlying3 (by simp [Lit.wf, IntKind.min, IntKind.max, IntKind.signed, IntKind.bits]; omega)) fun w' h3 h4 => ?_
  refine hK w' ⟨_, h3, ?_, fun y => ?_⟩ h4
  · rw [Maps.size_put (h1.tidy omKeyed), (h2 x).1, h0]
  · unfold fput
    by_cases e : y = x
    · subst e
      rw [if_pos rfl]
      have hkl : WideAt.IsKeyLit (.int .i64 (y : Int)) := trivial
      exact ⟨Maps.has_put_same (h1.tidy omKeyed).isMap hkl _, Maps.atKey_put_same (h1.tidy omKeyed).isMap hkl _ _⟩
    · rw [if_neg e]
      have hne : (Lit.int .i64 (y : Int)) ≠ .int .i64 (x : Int) := fun e1 => e (by injection e1; omega)
      rw [Maps.has_put_other hne, Maps.atKey_put_other hne]
      exact h2 y
/-- len(m) -/
theorem wpList_lenN (hg : o.guard = none) (a : Operand) (hop : o.op = Op.call { callee := Callee.builtin Builtin.len, args := #[a], argTypes := #[76] }) {B k m : Nat} {f : Nat → Option Nat} (hm : act.eval a = .map (some B)) (h : MapN w B k m f)
    (hK : wpList Tryz.prog ops Q rest (act.put o.dst (.int .i64 (m : Int))) w) : wpList Tryz.prog ops Q (o :: rest) act w := by
  obtain ⟨D, h1, h0, h2⟩ := h
  refine wpList_len_own w hg a 76 hop 3 3 Tryz.underlying76 (plainElem Tryz.prog 3) B k D hm h1 ?_
  rw [h0]; exact hK
end
end Go.Proofs.YtnmcajinaigcjaaGreatDoor
namespace Go.Proofs.YtnmcajinaigcjaaGreatDoor
open Go.RowKit
open Q (It Ver Tm Sp Rc Dm)

/-- the map says who is told -/
def ToldF (f : Nat → Option Nat) (L : List (List Nat)) : Prop := ∀ x, (f x).isSome = L.flatten.contains x
theorem all_hit {α : Type} {p : α → Bool} {xs : List α} {k : Nat} {x : α} (hx : xs[k]? = some x) (h : p x = false) : xs.all p = false := by
  cases e : xs.all p
  · rfl
  · rw [List.all_eq_true.1 e x (List.mem_of_getElem? hx)] at h; cases h
theorem all_next {α : Type} {p : α → Bool} {xs : List α} {k : Nat} {x : α} (hx : xs[k]? = some x) (h : (xs.take k).all p = true) (h1 : p x = true) : (xs.take (k + 1)).all p = true := by
  rw [List.take_add_one, hx]; simp [h, h1]
set_option maxHeartbeats 2000000 in
set_option maxRecDepth 100000 in
theorem oready_any (S B k m : Nat) (l : List Rc) (ch : List Bool) (na ra qa : Option Addr) (nc rc qc : Nat) (r : List Nat) (L : List (List Nat)) (f : Nat → Option Nat) (w : World) (hS2 : w.cell? ⟨S, 2, none⟩ = some (.slice na l.length nc)) (hN : Sl (RS RN 1) 1 w na (O.needsL l ch l.length)) (hR : SrtR w S l.length (O.ndB l ch) ra rc)
    (hq : Sl RN 1 w qa r) (hr : ∀ x ∈ r, x < l.length) (hM : MapN w B k m f) (hF : ToldF f L) (hm : l.length ≤ 1000) (hrl : r.length ≤ 1000) :
    Calls Tryz.prog 28 #[.pointer (some ⟨S, 0, none⟩), .slice qa r.length qc, .map (some B)] w fun e w' => e = .returned (.bool (O.rdy (O.ndB l ch) l.length L r)) ∧ w' = w := by
  have HN := Lib.hid hN
  have HR := Lib.hid hR
  have HQ := Lib.hid hq
  have HRL := Lib.hid hr
  have HM := Lib.hid hM
  have HF := Lib.hid hF
  generalize hz : O.rdy (O.ndB l ch) l.length L r = z
  have HZ := Lib.hid hz
  clear hN hR hq hr hM hF hz
  go_enter Tryz.func28, Tryz.ntmps28
  go_wp2
  go_loop [15] (fun i => ∃ a : Nat, a ≤ r.length ∧ i = .int .i64 a ∧ (r.take a).all (fun i => (O.needs l ch i).all fun j => L.flatten.contains j || O.same (O.ndB l ch) i j) = true) (fun i => r.length - (intOf i).toNat)
  case atStart => exact ⟨0, Nat.zero_le _, rfl, rfl⟩
  case round =>
    obtain ⟨a, ha, rfl, hal⟩ := hrel
    have HAL := Lib.hid hal
    clear hal
    by_cases hlt : a < r.length
    · obtain ⟨x, hx⟩ : ∃ x, r[a]? = some x := ⟨r[a], by simp [hlt]⟩
      obtain ⟨qb, qo, rfl, hqb, hqc⟩ := Sl.cellN HQ.out hx
      have hxn := HRL.out x (List.mem_of_getElem? hx)
      obtain ⟨nb, no, ia, ic, rfl, hnb, hnc, hicap, his⟩ := Sl.cellNs HN.out (i := x) (x := O.needs l ch x) (by simp [O.needsL, hxn])
      have hnl := O.needs_length l ch x
      have HX := Lib.hid hx
      have HIS := Lib.hid his
      clear hx his
      go_wp2
      go_loop [27] (fun i => ∃ b : Nat, b ≤ (O.needs l ch x).length ∧ i = .int .i64 b ∧ ((O.needs l ch x).take b).all (fun j => L.flatten.contains j || O.same (O.ndB l ch) x j) = true) (fun i => (O.needs l ch x).length - (intOf i).toNat)
      case atStart => exact ⟨0, Nat.zero_le _, rfl, rfl⟩
      case round =>
        obtain ⟨b, hb, rfl, hbl⟩ := hrel
        have HBL := Lib.hid hbl
        clear hbl
        by_cases hlt2 : b < (O.needs l ch x).length
        · obtain ⟨y, hy⟩ : ∃ y, (O.needs l ch x)[b]? = some y := ⟨(O.needs l ch x)[b], by simp [hlt2]⟩
          obtain ⟨ib, io, rfl, hib, hiy⟩ := Sl.cellN HIS.out hy
          have hyn : y < l.length := (O.hnd l ch x y (O.mem_needs.1 (List.mem_of_getElem? hy))).2.1
          have HY := Lib.hid hy
          clear hy
          have hft := HF.out y
          generalize hv : L.flatten.contains y = v at hft
          generalize hs : O.same (O.ndB l ch) x y = s
          have HV := Lib.hid hv
          have HS := Lib.hid hs
          clear hv
          cases v
          · cases s
            · go_wp2_with (first
              | (at_lookup; refine wpList_look2 rfl _ _ rfl rfl HM.out y rfl (by omega) ?_; rw [hft])
              | (go_at_call 54; (with_reducible refine (osame_any S l.length (O.ndB l ch) ra rc x y _ HR.out hxn hyn).mono ?_); rintro e w2 ⟨rfl, rfl⟩; rw [hs]))
              go_ret
              refine ⟨ret_bool ?_, rfl⟩
              rw [← HZ.out]
              exact (all_hit HX.out (all_hit HY.out (by rw [HV.out, HS.out]; rfl))).symm
            · go_wp2_with (first
              | (at_lookup; refine wpList_look2 rfl _ _ rfl rfl HM.out y rfl (by omega) ?_; rw [hft])
              | (go_at_call 54; (with_reducible refine (osame_any S l.length (O.ndB l ch) ra rc x y _ HR.out hxn hyn).mono ?_); rintro e w2 ⟨rfl, rfl⟩; rw [hs]))
              go_round
              case rel => exact ⟨b + 1, by omega, by go_num, all_next HY.out HBL.out (by rw [HS.out]; simp)⟩
              case measure => simp [intOf]; omega
          · go_wp2_with (first
            | (at_lookup; refine wpList_look2 rfl _ _ rfl rfl HM.out y rfl (by omega) ?_; rw [hft]))
            go_round
            case rel => exact ⟨b + 1, by omega, by go_num, all_next HY.out HBL.out (by rw [HV.out]; simp)⟩
            case measure => simp [intOf]; omega
        · obtain rfl : b = (O.needs l ch x).length := by omega
          go_wp2
          go_round
          case rel =>
            refine ⟨a + 1, by omega, by go_num, all_next HX.out HAL.out ?_⟩
            have h1 := HBL.out
            rwa [List.take_length] at h1
          case measure => simp [intOf]; omega
    · obtain rfl : a = r.length := by omega
      go_wp2
      go_ret
      refine ⟨ret_bool ?_, rfl⟩
      have h1 := HAL.out
      rw [List.take_length] at h1
      rw [← HZ.out]; exact h1.symm
end Go.Proofs.YtnmcajinaigcjaaGreatDoor
namespace Go.Proofs.YtnmcajinaigcjaaGreatDoor
open Go.RowKit
open Q (It Ver Tm Sp Rc Dm)

/-- append where there is room, on a row that the call made, in a region that draws -/
theorem step_append_spare {P : Program} {ops : Array Oper} {o : Oper} {act : Act} {w : World} {K : Act → World → Prop} {Q : Exit → Act → World → Prop} {E : Prop} (hgd : o.guard = none) (s x : Operand) (t : TypeId)
    (ho : o.op = .call { callee := .builtin .append, args := #[s, x], argTypes := #[t, t] })
    (base : Nat) (e : TypeId) (i : TypeInfo) (size : Nat) (ht : P.underlying t = some (.slice e)) (hi : P.info? e = some i) (hsize : i.size = size)
    (g n cap : Nat) (xs : List Value) (hs : act.eval s = .slice (some ⟨g, 0, none⟩) n cap) (hown : w.ownsRow base e size (.slice (some ⟨g, 0, none⟩) n cap) n xs)
    (ad : Addr) (m c : Nat) (news : List Value) (hx : act.eval x = .slice (some ad) m c) (hl : news.length = m * size) (hnews : ∀ j u, news[j]? = some u → w.cell? (ad.add j) = some u) (h1 : ∀ u ∈ news, u.oneCell' = true)
    (hroom : n + m ≤ cap)
    (h : ∀ w', w'.ownsRow base e size (.slice (some ⟨g, 0, none⟩) (n + m) cap) (n + m) (xs ++ news) → w.grownBy w' (some g) → K (act.put o.dst (.slice (some ⟨g, 0, none⟩) (n + m) cap)) w') :
    if Region.wanted o (yielded ops act.tmps) = true then Oper.wp P o act w K Q else E := by
  have hw : Region.wanted o (yielded ops act.tmps) = true := by simp [Region.wanted, hgd]
  rw [if_pos hw]
  exact wp_append_own_spare w s x t ho base e i size ht hi hsize g n cap xs hs hown ad m c news hx hl hnews h1 hroom h
theorem eraseIdx_parts {α : Type} : ∀ (xs : List α) (k : Nat), xs.take k ++ xs.drop (k + 1) = xs.eraseIdx k
  | [], k => by simp
  | x :: xs, 0 => by simp
  | x :: xs, k + 1 => by simp [eraseIdx_parts xs k]
theorem Own.front {e : TypeId} {w : World} {base g c n : Nat} {cells : List Value} (h : Own e 1 w base (some ⟨g, 0, none⟩) c n cells) {k : Nat} (hk : k ≤ n) : Own e 1 w base (some ⟨g, 0, none⟩) c k (cells.take k) := by
  obtain ⟨h1, ⟨e0, _⟩ | ⟨g', c', cur, e0, hb, hg, h2, h3, h4, h5⟩⟩ := h
  · cases e0
  rw [Nat.mul_one] at h1 h5
  refine ⟨by rw [List.length_take]; omega, .inr ⟨g', c', cur, ?_, hb, hg, by omega, h3, h4, ?_⟩⟩
  · injection e0 with e1 e2 e3; subst e3; rw [e1]
  · rw [Nat.mul_one, ← h5, List.take_take]; congr 1; omega
set_option maxHeartbeats 4000000 in
set_option maxRecDepth 100000 in
theorem odelete_any (base g c n k : Nat) (cells : List Value) (w : World) (hx : Own 31 1 w base (some ⟨g, 0, none⟩) c n cells) (h1 : ∀ u ∈ cells, u.oneCell' = true) (hk : k < n) :
    Calls Tryz.prog 29 #[.slice (some ⟨g, 0, none⟩) n c, .int .i64 (k : Int), .int .i64 ((k : Int) + 1)] w fun e w' => e = .returned (.slice (some ⟨g, 0, none⟩) (n - 1) c) ∧ Own 31 1 w' base (some ⟨g, 0, none⟩) c (n - 1) (cells.eraseIdx k) ∧ w.grownBy w' (some g) := by
  obtain ⟨i0, hi, hz0, hz1, hz2⟩ := info_parts Tryz.infoInts
  have hcl : cells.length = n := by have := hx.1; rwa [Nat.mul_one] at this
  have hnc := (Own.cap hx).1
  have hd : Own 31 1 w.drew base (some ⟨g, 0, none⟩) c n cells := hx.below ((Below.refl _ _).drew)
  obtain ⟨A, hA, hsrc⟩ : ∃ A : Addr, (if c = k + 1 then some (⟨g, 0, none⟩ : Addr) else some ⟨g, k + 1, none⟩) = some A ∧ ∀ t u, (cells.drop (k + 1))[t]? = some u → w.drew.cell? (A.add t) = some u := by
    by_cases h : c = k + 1
    · refine ⟨⟨g, 0, none⟩, by simp [h], fun t u hu => ?_⟩
      rw [List.drop_eq_nil_of_le (by omega)] at hu; simp at hu
    · refine ⟨⟨g, k + 1, none⟩, by simp [h], fun t u hu => ?_⟩
      rw [List.getElem?_drop] at hu
      obtain ⟨g', e, _, _, h4⟩ := Own.cell hd hu
      cases e
      rw [addr_add]; exact h4
  have HA := Lib.hid hA
  have HSRC := Lib.hid hsrc
  have HF := Lib.hid (hd.front (Nat.le_of_lt hk))
  have H1 := Lib.hid (fun u (hu : u ∈ cells.drop (k + 1)) => h1 u (List.mem_of_mem_drop hu))
  have HX := Lib.hid hx
  have HL := Lib.hid hcl
  have hdl : (cells.drop (k + 1)).length = (n - (k + 1)) * 1 := by rw [List.length_drop, Nat.mul_one, hcl]
  have HDL := Lib.hid hdl
  have hk1 : k + 1 ≤ n := hk
  have hk2 : (k : Int) + 1 ≤ (n : Int) := by omega
  have hk3 : k ≤ c := by omega
  have hk4 : k + 1 ≤ c := by omega
  have hk5 : (0 : Int) ≤ (k : Int) + 1 := by omega
  have n1 : ((k : Int) == (k : Int) + 1) = false := beq_false_of_ne (by omega)
  clear hx h1 hd hsrc hcl hdl HA
  go_enter Tryz.func29, Tryz.ntmps29
  go_wp2_with fail
  go_region_law
    (refine step_append_spare rfl (.tmp 22) (.tmp 25) 26 rfl base 31 i0 1 Tryz.underlying26 hi hz1 g k c (cells.take k) (by simp [Act.eval, Act.put]) HF.out A (n - (k + 1)) (c - (k + 1)) (cells.drop (k + 1)) (by simp [Act.eval, Act.put]) HDL.out HSRC.out H1.out (by omega) ?_; intro w1 hO1 hG1)
  have hne : k + (n - (k + 1)) = n - 1 := by omega
  rw [hne] at hO1 ⊢
  have hlt1 : n - 1 < c := by omega
  have hlt2 : n - 1 ≤ n := by omega
  have hlt3 : ((n - 1 : Nat) : Int) ≤ (n : Int) := by omega
  have hlt4 : n - (n - 1) = 1 := by omega
  have hlt5 : ¬ c = n - 1 := by omega
  have hO2 : Own 31 1 w1 base (some ⟨g, 0, none⟩) c (n - 1) (cells.take k ++ cells.drop (k + 1)) := hO1
  obtain ⟨cur, hg1, hcs⟩ : ∃ cur : Array Value, w1.heap[g]? = some (.cells cur 31 (0, 0)) ∧ cur.size = c := by
    rcases hO2.parts with ⟨e, _⟩ | ⟨g', cur, e, _, _, hg, _, _, hs, _⟩
    · cases e
    · cases e; exact ⟨cur, hg, by simpa using hs⟩
  have hclr : ∀ ty, (Builtin.clear_ #[26] ty #[.slice (some ⟨g, n - 1, none⟩) 1 (c - (n - 1))]).run Tryz.prog w1 = .ok (.tuple #[]) (w1.setCells g (n - 1) (List.replicate 1 (.slice none 0 0))) := fun ty =>
    Lib.run_clear_slice w1 _ 31 ty (.slice none 0 0) Tryz.underlying26 (fun w => by kernel_rfl) rfl rfl g (n - 1) 1 _ (by omega)
      (fun j hj => by obtain rfl : j = 0 := by omega
                      rw [cell_of_cells hg1, Nat.add_zero, Array.getElem?_eq_getElem (by omega)]; rfl)
      (fun j _ => by simp [World.frozen?, hg1])
  have HO := Lib.hid hO2
  have HG := Lib.hid hG1
  clear hO1 hO2 hG1 hg1 hcs hA HSRC HF H1 HDL hi hz0 hz1 hz2
  go_wp2
  go_ret
  refine ⟨rfl, ?_, ?_⟩
  · have h1 := (World.ownsRow.stored HO.out (n - 1) (.slice none 0 0)).1
    rw [List.set_eq_of_length_le (by simp; have := HL.out; omega), eraseIdx_parts] at h1
    exact h1
  · have h1 := (World.ownsRow.stored HO.out (n - 1) (.slice none 0 0)).2
    exact (show w.grownBy w1 (some g) from ⟨HG.out.os, HG.out.tape, HG.out.output, HG.out.size, HG.out.block⟩).andThen h1 fun _ e => .inr e
end Go.Proofs.YtnmcajinaigcjaaGreatDoor

/- One text of XMath, XCnfMath, XGatesMath, XSMath, XSFill: a claim has at most 60 files. -/

namespace Go.Proofs.YtnmcajinaigcjaaGreatDoor.C.M

def isLit (l : Int) : Bool := !(l == 0) && decide (-20000 ≤ l) && decide (l ≤ 20000)
def vr (l : Int) : Int := if l < 0 then -l else l
def less (a b : Int) : Bool := decide (vr a < vr b) || (vr a == vr b && decide (a < b))

theorem isLit_iff (l : Int) : isLit l = true ↔ l ≠ 0 ∧ -20000 ≤ l ∧ l ≤ 20000 := by
  simp [isLit, and_assoc]
theorem isLit_false (l : Int) : isLit l = false ↔ l = 0 ∨ l < -20000 ∨ 20000 < l := by
  rw [← Bool.not_eq_true, isLit_iff]; omega
theorem isLit_neg (l : Int) : isLit (-l) = isLit l := by
  rw [Bool.eq_iff_iff, isLit_iff, isLit_iff]; omega
theorem vr_of_neg {l : Int} (h : l < 0) : vr l = -l := if_pos h
theorem vr_of_pos {l : Int} (h : ¬ l < 0) : vr l = l := if_neg h
theorem vr_neg (l : Int) : vr (-l) = vr l := by
  by_cases h : l < 0
  · rw [vr_of_neg h, vr_of_pos (by omega)]
  · rw [vr_of_pos h]
    by_cases h0 : l = 0
    · subst h0; rfl
    · rw [vr_of_neg (by omega)]; omega
theorem vr_eq {a b : Int} (h : vr a = vr b) : a = b ∨ a = -b := by
  by_cases h1 : a < 0 <;> by_cases h2 : b < 0 <;> simp only [vr, h1, h2, if_true, if_false] at h <;> omega
theorem vr_nonneg (l : Int) : 0 ≤ vr l := by unfold vr; split <;> omega
theorem less_iff (a b : Int) : less a b = true ↔ vr a < vr b ∨ (vr a = vr b ∧ a < b) := by
  simp [less]
theorem less_false (a b : Int) : less a b = false ↔ vr b < vr a ∨ (vr a = vr b ∧ b ≤ a) := by
  rw [← Bool.not_eq_true, less_iff]; omega
theorem less_irrefl (a : Int) : less a a = false := by rw [less_false]; omega
theorem less_trans {a b c : Int} (h : less a b = true) (k : less b c = true) : less a c = true := by
  rw [less_iff] at *; omega
theorem less_total {a b : Int} (h : less a b = false) (k : less b a = false) : a = b := by
  rw [less_false] at *; omega
theorem less_asymm {a b : Int} (h : less a b = true) : less b a = false := by
  rw [less_iff] at h; rw [less_false]; omega

/-- literals' order, as a number -/
def cmp (a b : Int) : Int := if vr a < vr b then -1 else if vr b < vr a then 1 else if a < b then -1 else if b < a then 1 else 0
theorem cmp_neg (a b : Int) : (0 ≤ cmp a b) ↔ less a b = false := by
  rw [less_false]; unfold cmp; (repeat' split) <;> omega
theorem cmp_less (a b : Int) : (cmp a b < 0) ↔ less a b = true := by
  rw [less_iff]; unfold cmp; (repeat' split) <;> omega

/-- literals in order, one more -/
def put : List Int → Int → List Int
  | [], x => [x]
  | y :: l, x => if less y x then y :: put l x else if y = x then y :: l else x :: y :: l
def norm (l : List Int) : List Int := l.foldl put []
abbrev Sorted (l : List Int) : Prop := l.Pairwise (fun a b => less a b = true)

theorem mem_put (l : List Int) (x y : Int) : y ∈ put l x ↔ y = x ∨ y ∈ l := by
  induction l with
  | nil => simp [put]
  | cons z l ih =>
    rw [put]
    split
    · simp [ih]; constructor
      · rintro (h | h | h) <;> simp [h]
      · rintro (h | h | h) <;> simp [h]
    · split
      · rename_i h; subst h; simp
      · simp
theorem sorted_put {l : List Int} (h : Sorted l) (x : Int) : Sorted (put l x) := by
  induction l with
  | nil => simp [put, Sorted]
  | cons z l ih =>
    have h1 := List.pairwise_cons.1 h
    rw [put]
    split
    · rename_i hz
      refine List.pairwise_cons.2 ⟨fun y hy => ?_, ih h1.2⟩
      rcases (mem_put l x y).1 hy with rfl | hy
      · exact hz
      · exact h1.1 y hy
    · rename_i hz
      split
      · exact h
      · rename_i hne
        have hxz : less x z = true := by
          cases hh : less x z
          · exact absurd (less_total (by simpa using hz) hh) hne
          · rfl
        refine List.pairwise_cons.2 ⟨fun y hy => ?_, h⟩
        rcases List.mem_cons.1 hy with rfl | hy
        · exact hxz
        · exact less_trans hxz (h1.1 y hy)
theorem put_length (l : List Int) (x : Int) : (put l x).length ≤ l.length + 1 := by
  induction l with
  | nil => simp [put]
  | cons z l ih =>
    rw [put]; split
    · simp; omega
    · split <;> simp
theorem put_mem_eq {l : List Int} (h : Sorted l) {x : Int} (hx : x ∈ l) : put l x = l := by
  induction l with
  | nil => simp at hx
  | cons z l ih =>
    have h1 := List.pairwise_cons.1 h
    rw [put]
    rcases List.mem_cons.1 hx with rfl | hx
    · simp [less_irrefl]
    · rw [if_pos (h1.1 x hx), ih h1.2 hx]
theorem put_split : ∀ (l : List Int) (k : Nat) (x : Int), (∀ i y, i < k → l[i]? = some y → less y x = true) → (∀ y, l[k]? = some y → less y x = false) → k ≤ l.length →
    put l x = if l[k]? = some x then l else l.take k ++ x :: l.drop k
  | [], k, x, _, _, hk => by simp at hk; subst hk; simp [put]
  | z :: l, 0, x, _, h2, _ => by
    have := h2 z (by simp)
    rw [put, this]
    simp
  | z :: l, k + 1, x, h1, h2, hk => by
    have hz := h1 0 z (by omega) (by simp)
    rw [put, if_pos hz, put_split l k x (fun i y hi hy => h1 (i + 1) y (by omega) (by simpa using hy)) (fun y hy => h2 y (by simpa using hy)) (by simpa using hk)]
    simp only [List.getElem?_cons_succ]
    split <;> simp
theorem mem_foldl_put (l acc : List Int) (y : Int) : y ∈ l.foldl put acc ↔ y ∈ l ∨ y ∈ acc := by
  induction l generalizing acc with
  | nil => simp
  | cons x l ih => simp [ih, mem_put]; constructor
                   · rintro (h | h | h) <;> simp [h]
                   · rintro ((h | h) | h) <;> simp [h]
theorem sorted_foldl_put (l acc : List Int) (h : Sorted acc) : Sorted (l.foldl put acc) := by
  induction l generalizing acc with
  | nil => exact h
  | cons x l ih => exact ih _ (sorted_put h x)
theorem mem_norm (l : List Int) (y : Int) : y ∈ norm l ↔ y ∈ l := by simp [norm, mem_foldl_put]
theorem sorted_norm (l : List Int) : Sorted (norm l) := sorted_foldl_put l [] List.Pairwise.nil
/-- there is one list in order of given literals -/
theorem sorted_ext : ∀ {a b : List Int}, Sorted a → Sorted b → (∀ x, x ∈ a ↔ x ∈ b) → a = b
  | [], [], _, _, _ => rfl
  | [], y :: b, _, _, h => by have := (h y).2 (by simp); simp at this
  | x :: a, [], _, _, h => by have := (h x).1 (by simp); simp at this
  | x :: a, y :: b, ha, hb, h => by
    have ha1 := List.pairwise_cons.1 ha
    have hb1 := List.pairwise_cons.1 hb
    have hxy : x = y := by
      rcases List.mem_cons.1 ((h x).1 (by simp)) with hx | hx
      · exact hx
      · rcases List.mem_cons.1 ((h y).2 (by simp)) with hy | hy
        · exact hy.symm
        · have h1 := hb1.1 x hx
          have h2 := ha1.1 y hy
          rw [less_asymm h1] at h2; cases h2
    subst hxy
    congr 1
    refine sorted_ext ha1.2 hb1.2 fun z => ?_
    constructor
    · intro hz
      rcases List.mem_cons.1 ((h z).1 (by simp [hz])) with rfl | hz'
      · have := ha1.1 _ hz; rw [less_irrefl] at this; cases this
      · exact hz'
    · intro hz
      rcases List.mem_cons.1 ((h z).2 (by simp [hz])) with rfl | hz'
      · have := hb1.1 _ hz; rw [less_irrefl] at this; cases this
      · exact hz'
theorem norm_eq_self {l : List Int} (h : Sorted l) : norm l = l := sorted_ext (sorted_norm l) h (mem_norm l)
theorem norm_of_mem {a : List Int} (l : List Int) (h : Sorted a) (hm : ∀ x, x ∈ a ↔ x ∈ l) : a = norm l :=
  sorted_ext h (sorted_norm l) (fun x => (hm x).trans (mem_norm l x).symm)
theorem norm_length (l : List Int) : (norm l).length ≤ l.length := by
  have : ∀ (l acc : List Int), (l.foldl put acc).length ≤ acc.length + l.length := by
    intro l
    induction l with
    | nil => simp
    | cons x l ih => intro acc; have := ih (put acc x); have := put_length acc x; simp; omega
  simpa [norm] using this l []

/-- each element comes behind the one ahead of it -/
def chain : List Int → Bool
  | a :: b :: l => less a b && chain (b :: l)
  | _ => true
theorem chain_iff : ∀ l : List Int, chain l = true ↔ Sorted l
  | [] => by simp [chain, Sorted]
  | [a] => by simp [chain, Sorted]
  | a :: b :: l => by
    have ih := chain_iff (b :: l)
    simp only [chain, Bool.and_eq_true, ih]
    constructor
    · rintro ⟨h1, h2⟩
      refine List.pairwise_cons.2 ⟨fun y hy => ?_, h2⟩
      rcases List.mem_cons.1 hy with rfl | hy
      · exact h1
      · exact less_trans h1 ((List.pairwise_cons.1 h2).1 y hy)
    · intro h
      exact ⟨(List.pairwise_cons.1 h).1 b (by simp), (List.pairwise_cons.1 h).2⟩
def right (c : List Int) : Bool := c.all isLit && chain c
theorem right_iff (c : List Int) : right c = true ↔ (∀ x ∈ c, isLit x = true) ∧ norm c = c := by
  simp only [right, Bool.and_eq_true, List.all_eq_true, chain_iff]
  constructor
  · rintro ⟨h1, h2⟩; exact ⟨h1, norm_eq_self h2⟩
  · rintro ⟨h1, h2⟩; exact ⟨h1, by rw [← h2]; exact sorted_norm c⟩
theorem right_sorted {c : List Int} (h : right c = true) : Sorted c := by
  have := (right_iff c).1 h; rw [← this.2]; exact sorted_norm c

theorem right_take {c : List Int} (k : Nat) (h : right c = true) : right (c.take k) = true := by
  have h1 : ∀ x ∈ c, isLit x = true := ((right_iff c).1 h).1
  have h2 := right_sorted h
  simp only [right, Bool.and_eq_true, List.all_eq_true, chain_iff]
  exact ⟨fun x hx => h1 x (List.mem_of_mem_take hx), h2.sublist (List.take_sublist k c)⟩
theorem right_nil : right [] = true := rfl
theorem right_one (z : Int) : right [z] = isLit z := by simp [right, chain]
theorem right_append (l : List Int) (y z : Int) (hl : right (l ++ [y]) = true) : right (l ++ [y] ++ [z]) = (isLit z && less y z) := by
  have h1 := ((right_iff _).1 hl).1
  have h2 := right_sorted hl
  rw [Bool.eq_iff_iff]
  simp only [right, Bool.and_eq_true, List.all_eq_true, chain_iff]
  constructor
  · rintro ⟨a, b⟩
    refine ⟨a z (by simp), ?_⟩
    exact (List.pairwise_append.1 b).2.2 y (by simp) z (by simp)
  · rintro ⟨a, b⟩
    refine ⟨fun x hx => ?_, List.pairwise_append.2 ⟨h2, by simp, fun x hx w hw => ?_⟩⟩
    · rcases List.mem_append.1 hx with hx | hx
      · exact h1 x hx
      · simp at hx; subst hx; exact a
    · simp at hw; subst hw
      rcases List.mem_append.1 hx with hx | hx
      · exact less_trans ((List.pairwise_append.1 h2).2.2 x hx y (by simp)) b
      · simp at hx; subst hx; exact b
theorem right_snoc0 {zs : List Int} {z : Int} (h : zs[0]? = some z) : right (zs.take 1) = isLit z := by
  cases zs with
  | nil => simp at h
  | cons a l => simp at h; subst h; simp [right_one]
theorem right_snoc {zs : List Int} {k : Nat} {y z : Int} (hy : zs[k]? = some y) (hz : zs[k + 1]? = some z) (hr : right (zs.take (k + 1)) = true) : right (zs.take (k + 1 + 1)) = (isLit z && less y z) := by
  have e1 : zs.take (k + 1) = zs.take k ++ [y] := by rw [List.take_add_one, hy]; rfl
  have e2 : zs.take (k + 1 + 1) = zs.take k ++ [y] ++ [z] := by rw [List.take_add_one, hz, e1]; rfl
  rw [e1] at hr
  rw [e2, right_append _ _ _ hr]
theorem right_step {zs : List Int} {k : Nat} {y z : Int} (hk : 0 < k) (hy : zs[k - 1]? = some y) (hz : zs[k]? = some z) (hr : right (zs.take k) = true) : right (zs.take (k + 1)) = (isLit z && less y z) := by
  obtain ⟨j, rfl⟩ : ∃ j, k = j + 1 := ⟨k - 1, by omega⟩
  exact right_snoc hy hz hr
theorem right_zero {zs : List Int} {k : Nat} {z : Int} (hk : ¬ 0 < k) (hz : zs[k]? = some z) : right (zs.take (k + 1)) = isLit z := by
  obtain rfl : k = 0 := by omega
  exact right_snoc0 hz
theorem right_miss {zs : List Int} {k : Nat} (h : right (zs.take k) = false) : right zs = false := by
  cases hh : right zs
  · rfl
  · rw [right_take k hh] at h; cases h

/-- two that stand side by side are opposites -/
def adj : List Int → Bool
  | a :: b :: l => (b == -a) || adj (b :: l)
  | _ => false
theorem adj_iff : ∀ {l : List Int}, Sorted l → (∀ x ∈ l, x ≠ 0) → (adj l = true ↔ ∃ x, x ∈ l ∧ -x ∈ l)
  | [], _, _ => by simp [adj]
  | [a], _, h0 => by
    have := h0 a (by simp)
    simp [adj]
    omega
  | a :: b :: l, hs, h0 => by
    have h1 := List.pairwise_cons.1 hs
    have ih := adj_iff h1.2 (fun x hx => h0 x (List.mem_cons_of_mem _ hx))
    have ha := h0 a (by simp)
    simp only [adj, Bool.or_eq_true, beq_iff_eq, ih]
    constructor
    · rintro (h | ⟨x, hx, hy⟩)
      · exact ⟨a, by simp, by simp [h]⟩
      · exact ⟨x, List.mem_cons_of_mem _ hx, List.mem_cons_of_mem _ hy⟩
    · rintro ⟨x, hx, hy⟩
      -- the one with the lesser number first
      have key : ∀ x, x < 0 → x ∈ a :: b :: l → -x ∈ a :: b :: l → (b = -a ∨ ∃ y, y ∈ b :: l ∧ -y ∈ b :: l) := by
        intro x hneg hx hy
        rcases List.mem_cons.1 hx with rfl | hx
        · rcases List.mem_cons.1 hy with hy | hy
          · omega
          · rcases List.mem_cons.1 hy with hy | hy
            · exact .inl hy.symm
            · left
              have e1 := h1.1 b (by simp)
              have e2 := (List.pairwise_cons.1 h1.2).1 _ hy
              rw [less_iff] at e1 e2
              rw [vr_neg] at e2
              have hb : vr b = vr x := by omega
              rcases vr_eq hb with h | h
              · omega
              · exact h
        · rcases List.mem_cons.1 hy with hy | hy
          · exfalso
            have e1 := h1.1 x hx
            rw [less_iff, ← hy] at e1
            rw [vr_neg] at e1
            omega
          · exact .inr ⟨x, hx, hy⟩
      have hx0 := h0 x hx
      rcases Int.lt_or_lt_of_ne hx0 with h | h
      · exact key x h hx hy
      · exact key (-x) (by omega) hy (by simpa using hx)
theorem filter_isLit_of_all {c : List Int} (h : ∀ x ∈ c, isLit x = true) : c.filter isLit = c := List.filter_eq_self.2 h
theorem filter_keep {zs : List Int} {k : Nat} {z : Int} (h : zs[k]? = some z) (hz : isLit z = true) : (zs.take (k + 1)).filter isLit = (zs.take k).filter isLit ++ [z] := by
  rw [List.take_add_one, h]; simp [hz]
theorem filter_drop {zs : List Int} {k : Nat} {z : Int} (h : zs[k]? = some z) (hz : isLit z = false) : (zs.take (k + 1)).filter isLit = (zs.take k).filter isLit := by
  rw [List.take_add_one, h]; simp [hz]
theorem adj_take1 (ys : List Int) : adj (ys.take 1) = false := by
  cases ys with
  | nil => rfl
  | cons a l => simp [adj]
theorem adj_snoc : ∀ (l : List Int) (y z : Int), adj (l ++ [y] ++ [z]) = (adj (l ++ [y]) || (z == -y))
  | [], y, z => by simp [adj]
  | [a], y, z => by simp [adj]
  | a :: b :: l, y, z => by
    have := adj_snoc (b :: l) y z
    simp only [List.cons_append, adj] at *
    rw [this]; simp [Bool.or_assoc]
theorem adj_step {ys : List Int} {k : Nat} {y z : Int} (hk : 1 ≤ k) (hy : ys[k - 1]? = some y) (hz : ys[k]? = some z) : adj (ys.take (k + 1)) = (adj (ys.take k) || (z == -y)) := by
  obtain ⟨j, rfl⟩ : ∃ j, k = j + 1 := ⟨k - 1, by omega⟩
  have hy' : ys[j]? = some y := hy
  have e1 : ys.take (j + 1) = ys.take j ++ [y] := by rw [List.take_add_one, hy']; rfl
  have e2 : ys.take (j + 1 + 1) = ys.take j ++ [y] ++ [z] := by rw [List.take_add_one, hz, e1]; rfl
  rw [e2, e1, adj_snoc]
theorem adj_append : ∀ (l k : List Int), adj l = true → adj (l ++ k) = true
  | [], _, h => by simp [adj] at h
  | [a], _, h => by simp [adj] at h
  | a :: b :: l, k, h => by
    simp only [List.cons_append, adj, Bool.or_eq_true] at *
    rcases h with h | h
    · exact .inl h
    · exact .inr (adj_append (b :: l) k h)
theorem adj_hit {ys : List Int} {k : Nat} {y z : Int} (hk : 1 ≤ k) (hy : ys[k - 1]? = some y) (hz : ys[k]? = some z) (h : (z == -y) = true) : adj ys = true := by
  have := adj_append (ys.take (k + 1)) (ys.drop (k + 1)) (by rw [adj_step hk hy hz, h, Bool.or_true])
  rwa [List.take_append_drop] at this
/-- the right clause of those that are literals -/
def only (c : List Int) : List Int := norm (c.filter isLit)
theorem only_of_right {c : List Int} (h : right c = true) : only c = c := by
  have h' := (right_iff c).1 h
  rw [only, filter_isLit_of_all h'.1, h'.2]
theorem mem_only (c : List Int) (x : Int) : x ∈ only c ↔ x ∈ c ∧ isLit x = true := by simp [only, mem_norm]
theorem sorted_only (c : List Int) : Sorted (only c) := sorted_norm _
theorem adj_only (c : List Int) : adj (only c) = true ↔ ∃ x, x ∈ c ∧ isLit x = true ∧ -x ∈ c := by
  rw [adj_iff (sorted_only c) (fun x hx => ((isLit_iff x).1 ((mem_only c x).1 hx).2).1)]
  constructor
  · rintro ⟨x, hx, hy⟩
    exact ⟨x, ((mem_only c x).1 hx).1, ((mem_only c x).1 hx).2, ((mem_only c _).1 hy).1⟩
  · rintro ⟨x, hx, hl, hy⟩
    exact ⟨x, (mem_only c x).2 ⟨hx, hl⟩, (mem_only c _).2 ⟨hy, by rw [isLit_neg]; exact hl⟩⟩

/-! models -/
def holds (l : Int) (m : List Bool) : Bool :=
  isLit l && (if l < 0 then !(m.getD (-l - 1).toNat false) else m.getD (l - 1).toNat false)
def tru (c : List Int) (m : List Bool) : Bool := c.any (holds · m)
def allTrue (cs : List (List Int)) (m : List Bool) : Bool := cs.all (tru · m)
theorem holds_neg {l : Int} (m : List Bool) (h : isLit l = true) : holds (-l) m = !(holds l m) := by
  have h' := (isLit_iff l).1 h
  have hn : isLit (-l) = true := by rw [isLit_neg]; exact h
  simp only [holds, h, hn, Bool.true_and]
  by_cases hl : l < 0
  · rw [if_neg (by omega), if_pos hl]; simp
  · rw [if_pos (by omega), if_neg hl]; simp
theorem tru_only (c : List Int) (m : List Bool) : tru (only c) m = tru c m := by
  rw [Bool.eq_iff_iff]
  simp only [tru, List.any_eq_true]
  constructor
  · rintro ⟨x, hx, h⟩; exact ⟨x, ((mem_only c x).1 hx).1, h⟩
  · rintro ⟨x, hx, h⟩
    refine ⟨x, (mem_only c x).2 ⟨hx, ?_⟩, h⟩
    simp only [holds, Bool.and_eq_true] at h; exact h.1

theorem vr_succ {l : Int} (h : isLit l = true) : ∃ v : Nat, vr l = (v : Int) + 1 := by
  have h' := (isLit_iff l).1 h
  have := vr_nonneg l
  have h0 : vr l ≠ 0 := by unfold vr; split <;> omega
  exact ⟨(vr l - 1).toNat, by omega⟩
theorem holds_at {z : Int} (h : isLit z = true) {v : Nat} (hv : vr z = (v : Int) + 1) (m : List Bool) : holds z m = ((m[v]?.getD false) == decide (0 < z)) := by
  have h' := (isLit_iff z).1 h
  by_cases hn : z < 0
  · rw [vr_of_neg hn] at hv
    rw [holds, h, if_pos hn, show (-z - 1).toNat = v by omega, decide_eq_false (by omega)]
    simp
  · rw [vr_of_pos hn] at hv
    rw [holds, h, if_neg hn, show (z - 1).toNat = v by omega, decide_eq_true (by omega)]
    simp
theorem holds_in {z : Int} (h : isLit z = true) {v : Nat} (hv : vr z = (v : Int) + 1) {m : List Bool} {y : Bool} (hy : m[v]? = some y) : holds z m = (y == decide (0 < z)) := by
  rw [holds_at h hv, hy]; rfl
theorem holds_out {z : Int} (h : isLit z = true) {v : Nat} (hv : vr z = (v : Int) + 1) {m : List Bool} (hy : m.length ≤ v) : holds z m = !(decide (0 < z)) := by
  rw [holds_at h hv, List.getElem?_eq_none hy]; simp
theorem tru_snoc {zs : List Int} {k : Nat} {z : Int} (h : zs[k]? = some z) (m : List Bool) : tru (zs.take (k + 1)) m = (tru (zs.take k) m || holds z m) := by
  rw [List.take_add_one, h]; simp [tru]
theorem tru_hit {zs : List Int} {k : Nat} {z : Int} (h : zs[k]? = some z) {m : List Bool} (ht : holds z m = true) : tru zs m = true :=
  List.any_eq_true.2 ⟨z, List.mem_of_getElem? h, ht⟩
theorem allTrue_snoc {cs : List (List Int)} {k : Nat} {c : List Int} (h : cs[k]? = some c) (m : List Bool) : allTrue (cs.take (k + 1)) m = (allTrue (cs.take k) m && tru c m) := by
  rw [List.take_add_one, h]; simp [allTrue]
theorem allTrue_miss {cs : List (List Int)} {k : Nat} {c : List Int} (h : cs[k]? = some c) {m : List Bool} (ht : tru c m = false) : allTrue cs m = false := by
  cases hh : allTrue cs m
  · rfl
  · have := List.all_eq_true.1 hh c (List.mem_of_getElem? h); rw [ht] at this; cases this
/-- is a number in a list? -/
def inn (zs : List Int) (x : Int) : Bool := decide (x ∈ zs)
theorem inn_iff (zs : List Int) (x : Int) : inn zs x = true ↔ x ∈ zs := by simp [inn]
theorem inn_false (zs : List Int) (x : Int) : inn zs x = false ↔ x ∉ zs := by simp [inn]
theorem inn_snoc {zs : List Int} {k : Nat} {z : Int} (h : zs[k]? = some z) (x : Int) : inn (zs.take (k + 1)) x = (inn (zs.take k) x || (z == x)) := by
  rw [List.take_add_one, h, Bool.eq_iff_iff]; simp [inn]; exact ⟨fun h => h.imp id Eq.symm, fun h => h.imp id Eq.symm⟩
theorem inn_hit {zs : List Int} {k : Nat} {z x : Int} (h : zs[k]? = some z) (hx : (z == x) = true) : inn zs x = true := by
  have e : z = x := by simpa using hx
  subst e; rw [inn_iff]; exact List.mem_of_getElem? h

/-! propagation -/
def Closed (cs : List (List Int)) (fr : List Int) (S : Int → Prop) : Prop :=
  (∀ l ∈ fr, isLit l = true → S l) ∧
  ∀ c ∈ cs, ∀ l ∈ c, isLit l = true → (∀ k ∈ c, isLit k = true → k ≠ l → S (-k)) → S l
/-- what follows, one clause behind the other -/
def Der (cs : List (List Int)) (fr : List Int) (l : Int) : Prop := ∀ S, Closed cs fr S → S l
def Conf (cs : List (List Int)) (fr : List Int) : Prop :=
  (∃ l, Der cs fr l ∧ Der cs fr (-l)) ∨ ∃ c ∈ cs, ∀ l ∈ c, isLit l = true → Der cs fr (-l)
theorem der_closed (cs : List (List Int)) (fr : List Int) : Closed cs fr (Der cs fr) :=
  ⟨fun l hl h _ hS => hS.1 l hl h, fun c hc l hl h hk S hS => hS.2 c hc l hl h fun k hk' hkl hne => hk k hk' hkl hne S hS⟩
theorem der_isLit {cs : List (List Int)} {fr : List Int} {l : Int} (h : Der cs fr l) : isLit l = true :=
  h (fun l => isLit l = true) ⟨fun _ _ h => h, fun _ _ _ _ h _ => h⟩
/-- what is answered: all that follows, in order; or that there is a conflict -/
def PropRes (cs : List (List Int)) (fr : List Int) (l : List Int) (ok : Bool) : Prop :=
  (ok = true ∧ Sorted l ∧ (∀ x, x ∈ l ↔ Der cs fr x) ∧ ¬ Conf cs fr) ∨ (ok = false ∧ l = [] ∧ Conf cs fr)
theorem PropRes.unique {cs : List (List Int)} {fr l l' : List Int} {ok ok' : Bool} (h : PropRes cs fr l ok) (h' : PropRes cs fr l' ok') : l = l' ∧ ok = ok' := by
  rcases h with ⟨rfl, hs, hm, hc⟩ | ⟨rfl, rfl, hc⟩ <;> rcases h' with ⟨rfl, hs', hm', hc'⟩ | ⟨rfl, rfl, hc'⟩
  · exact ⟨sorted_ext hs hs' fun x => (hm x).trans (hm' x).symm, rfl⟩
  · exact absurd hc' hc
  · exact absurd hc hc'
  · exact ⟨rfl, rfl⟩
/-- a set that is consistent, follows, and is closed -/
theorem PropRes.of_closed {cs : List (List Int)} {fr l : List Int} (hs : Sorted l) (hd : ∀ x ∈ l, Der cs fr x)
    (hcon : ∀ x ∈ l, -x ∉ l) (hfr : ∀ x ∈ fr, isLit x = true → x ∈ l)
    (hcl : ∀ c ∈ cs, (∃ x ∈ c, x ∈ l) ∨ ∃ x ∈ c, ∃ y ∈ c, x ≠ y ∧ isLit x = true ∧ isLit y = true ∧ -x ∉ l ∧ -y ∉ l) :
    PropRes cs fr l true := by
  have hC : Closed cs fr (· ∈ l) := by
    refine ⟨hfr, fun c hc x hx hlx hk => ?_⟩
    rcases hcl c hc with ⟨y, hy, hyl⟩ | ⟨y, hy, z, hz, hne, hly, hlz, hny, hnz⟩
    · by_cases hxy : y = x
      · exact hxy ▸ hyl
      · exact absurd (hk y hy (der_isLit (hd y hyl)) hxy) (hcon y hyl)
    · exfalso
      by_cases hxy : y = x
      · exact hnz (hk z hz hlz (fun h => hne (hxy.trans h.symm)))
      · exact hny (hk y hy hly hxy)
  have hm : ∀ x, x ∈ l ↔ Der cs fr x := fun x => ⟨hd x, fun h => h _ hC⟩
  refine .inl ⟨rfl, hs, hm, ?_⟩
  rintro (⟨x, h1, h2⟩ | ⟨c, hc, h⟩)
  · exact hcon x ((hm x).2 h1) ((hm _).2 h2)
  · rcases hcl c hc with ⟨y, hy, hyl⟩ | ⟨y, hy, z, hz, hne, hly, hlz, hny, hnz⟩
    · exact hcon y hyl ((hm _).2 (h y hy (der_isLit (hd y hyl))))
    · exact hny ((hm _).2 (h y hy hly))
/-- what follows is true in each model in which all is -/
theorem der_true {cs : List (List Int)} {fr : List Int} {m : List Bool} (hc : allTrue cs m = true) (hf : ∀ l ∈ fr, isLit l = true → holds l m = true) {l : Int} (h : Der cs fr l) : holds l m = true := by
  refine h (fun l => holds l m = true) ⟨hf, fun c hcm x hx hlx hk => ?_⟩
  have ht : tru c m = true := by
    have := List.all_eq_true.1 hc c hcm; exact this
  obtain ⟨y, hy, hyt⟩ := List.any_eq_true.1 ht
  by_cases hxy : y = x
  · exact hxy ▸ hyt
  · have hly : isLit y = true := by simp only [holds, Bool.and_eq_true] at hyt; exact hyt.1
    have : holds (-y) m = true := hk y hy hly hxy
    rw [holds_neg m hly, hyt] at this
    cases this
theorem conf_false {cs : List (List Int)} {fr : List Int} {m : List Bool} (hc : allTrue cs m = true) (hf : ∀ l ∈ fr, isLit l = true → holds l m = true) (h : Conf cs fr) : False := by
  rcases h with ⟨x, h1, h2⟩ | ⟨c, hcm, h⟩
  · have a := der_true hc hf h1
    have b := der_true hc hf h2
    rw [holds_neg m (der_isLit h1), a] at b; cases b
  · have ht : tru c m = true := List.all_eq_true.1 hc c hcm
    obtain ⟨y, hy, hyt⟩ := List.any_eq_true.1 ht
    have hly : isLit y = true := by simp only [holds, Bool.and_eq_true] at hyt; exact hyt.1
    have := der_true hc hf (h y hy hly)
    rw [holds_neg m hly, hyt] at this; cases this
/-- the closing of two clauses -/
def resolve (a b : List Int) (v : Int) : List Int := norm (a.filter (· != v) ++ b.filter (· != -v))
theorem resolve_sound {a b : List Int} {v : Int} {m : List Bool} (hv : isLit v = true) (ha : tru a m = true) (hb : tru b m = true) : tru (resolve a b v) m = true := by
  obtain ⟨x, hx, hxt⟩ := List.any_eq_true.1 ha
  obtain ⟨y, hy, hyt⟩ := List.any_eq_true.1 hb
  refine List.any_eq_true.2 ?_
  by_cases h : x = v
  · refine ⟨y, ?_, hyt⟩
    have hne : y ≠ -v := by
      rintro rfl
      subst h
      rw [holds_neg m hv, hxt] at hyt; cases hyt
    rw [resolve, mem_norm]; simp [hy, hne]
  · exact ⟨x, by rw [resolve, mem_norm]; simp [hx, h], hxt⟩
/-- the greatest variable -/
def vars (cs : List (List Int)) : Int := cs.foldl (fun g c => c.foldl (fun g l => if isLit l then max g (vr l) else g) g) 0
end Go.Proofs.YtnmcajinaigcjaaGreatDoor.C.M
namespace Go.Proofs.YtnmcajinaigcjaaGreatDoor.C.M

/-- are all literals of a formula with so many variables? -/
def own (vars : Nat) (l : List Int) : Bool := l.all fun x => !(x == 0) && decide (-(vars : Int) ≤ x) && decide (x ≤ (vars : Int))
theorem own_iff (vars : Nat) (l : List Int) : own vars l = true ↔ ∀ x ∈ l, x ≠ 0 ∧ -(vars : Int) ≤ x ∧ x ≤ (vars : Int) := by
  simp [own, and_assoc]
theorem own_isLit {vars : Nat} (hv : vars ≤ 20000) {l : List Int} (h : own vars l = true) : ∀ x ∈ l, isLit x = true := by
  intro x hx; have := (own_iff vars l).1 h x hx; rw [isLit_iff]; omega
theorem own_step {vars : Nat} {zs : List Int} {k : Nat} {z : Int} (h : zs[k]? = some z) (hr : own vars (zs.take k) = true) (hz : z ≠ 0 ∧ -(vars : Int) ≤ z ∧ z ≤ (vars : Int)) : own vars (zs.take (k + 1)) = true := by
  rw [own_iff] at *
  intro x hx
  rw [List.take_add_one, h] at hx
  rcases List.mem_append.1 hx with hx | hx
  · exact hr x hx
  · simp at hx; subst hx; exact hz
theorem own_miss {vars : Nat} {zs : List Int} {k : Nat} {z : Int} (h : zs[k]? = some z) (hz : z = 0 ∨ z < -(vars : Int) ∨ (vars : Int) < z) : own vars zs = false := by
  cases hh : own vars zs
  · rfl
  · have := (own_iff _ _).1 hh z (List.mem_of_getElem? h); omega
/-- clauses with one more, unless it is always true -/
def addC (cs : List (List Int)) (c : List Int) : List (List Int) := if adj (norm c) then cs else cs ++ [norm c]
theorem adj_norm {c : List Int} (h : ∀ x ∈ c, isLit x = true) : adj (norm c) = true ↔ ∃ x, x ∈ c ∧ -x ∈ c := by
  rw [adj_iff (sorted_norm c) (fun x hx => ((isLit_iff x).1 (h x ((mem_norm c x).1 hx))).1)]
  simp [mem_norm]
theorem tru_norm (c : List Int) (m : List Bool) : tru (norm c) m = tru c m := by
  rw [Bool.eq_iff_iff]
  simp only [tru, List.any_eq_true, mem_norm]
theorem tru_adj {c : List Int} (h : ∀ x ∈ c, isLit x = true) (ha : adj (norm c) = true) (m : List Bool) : tru c m = true := by
  obtain ⟨x, hx, hy⟩ := (adj_norm h).1 ha
  refine List.any_eq_true.2 ?_
  cases hh : holds x m
  · exact ⟨-x, hy, by rw [holds_neg m (h x hx), hh]; rfl⟩
  · exact ⟨x, hx, hh⟩
theorem allTrue_addC (cs : List (List Int)) {c : List Int} (h : ∀ x ∈ c, isLit x = true) (m : List Bool) : allTrue (addC cs c) m = (allTrue cs m && tru c m) := by
  unfold addC
  split
  · rename_i ha; rw [tru_adj h ha m, Bool.and_true]
  · simp [allTrue, List.all_append, tru_norm]
theorem allTrue_addCs (cs ds : List (List Int)) (h : ∀ c ∈ ds, ∀ x ∈ c, isLit x = true) (m : List Bool) : allTrue (ds.foldl addC cs) m = (allTrue cs m && allTrue ds m) := by
  induction ds generalizing cs with
  | nil => simp [allTrue]
  | cons c ds ih =>
    rw [List.foldl_cons, ih _ (fun d hd => h d (List.mem_cons_of_mem _ hd)), allTrue_addC cs (h c (by simp)) m]
    simp [allTrue, Bool.and_assoc]
theorem addC_length (cs : List (List Int)) (c : List Int) : (addC cs c).length ≤ cs.length + 1 := by
  unfold addC; split <;> simp
theorem addCs_length (cs ds : List (List Int)) : (ds.foldl addC cs).length ≤ cs.length + ds.length := by
  induction ds generalizing cs with
  | nil => simp
  | cons c ds ih => have := ih (addC cs c); have := addC_length cs c; simp; omega
/-- a gate's clauses: 1 And, 2 Or, 3 Xor, else Most -/
def andC (g : Int) (l : List Int) : List (List Int) := l.map (fun x => [-g, x]) ++ [g :: l.map (- ·)]
def orC (g : Int) (l : List Int) : List (List Int) := l.map (fun x => [g, -x]) ++ [-g :: l]
def xorC (g a b : Int) : List (List Int) := [[-g, a, b], [-g, -a, -b], [g, -a, b], [g, a, -b]]
def mostC (g a b c : Int) : List (List Int) := [[-g, a, b], [-g, a, c], [-g, b, c], [g, -a, -b], [g, -a, -c], [g, -b, -c]]
/-- the literals of l that are so -/
def count (l : List Int) (m : List Bool) : Nat := l.countP (holds · m)

theorem all_pair (l : List Int) (b : Bool) (f : Int → Bool) : (l.all fun x => b || f x) = (b || l.all f) := by
  cases b <;> simp
theorem andC_true {g : Int} {l : List Int} (hg : isLit g = true) (hl : ∀ x ∈ l, isLit x = true) (m : List Bool) :
    allTrue (andC g l) m = (holds g m == l.all (holds · m)) := by
  have e1 : (l.map fun x => [-g, x]).all (tru · m) = (!(holds g m) || l.all (holds · m)) := by
    rw [List.all_map, ← all_pair]
    refine congrArg (fun f => l.all f) (funext fun x => ?_)
    simp [tru, holds_neg m hg]
  have e2 : (l.map (- ·)).any (holds · m) = !(l.all (holds · m)) := by
    rw [List.any_map, List.not_all_eq_any_not]
    rw [Bool.eq_iff_iff]; simp only [List.any_eq_true, Function.comp]
    constructor
    · rintro ⟨x, hx, h⟩; exact ⟨x, hx, by rw [holds_neg m (hl x hx)] at h; exact h⟩
    · rintro ⟨x, hx, h⟩; exact ⟨x, hx, by rw [holds_neg m (hl x hx)]; exact h⟩
  unfold andC allTrue
  rw [List.all_append, e1]
  simp only [List.all_cons, List.all_nil, Bool.and_true, tru, List.any_cons, e2]
  cases holds g m <;> cases l.all (holds · m) <;> rfl
theorem orC_true {g : Int} {l : List Int} (hg : isLit g = true) (hl : ∀ x ∈ l, isLit x = true) (m : List Bool) :
    allTrue (orC g l) m = (holds g m == l.any (holds · m)) := by
  have e1 : (l.map fun x => [g, -x]).all (tru · m) = (holds g m || !(l.any (holds · m))) := by
    rw [List.all_map, List.not_any_eq_all_not, ← all_pair]
    rw [Bool.eq_iff_iff]; simp only [List.all_eq_true]
    constructor
    · intro h x hx; have := h x hx; simpa [tru, holds_neg m (hl x hx)] using this
    · intro h x hx; have := h x hx; simpa [tru, holds_neg m (hl x hx)] using this
  unfold orC allTrue
  rw [List.all_append, e1]
  simp only [List.all_cons, List.all_nil, Bool.and_true, tru, List.any_cons, holds_neg m hg]
  cases holds g m <;> cases l.any (holds · m) <;> rfl
theorem xorC_true {g a b : Int} (hg : isLit g = true) (ha : isLit a = true) (hb : isLit b = true) (m : List Bool) :
    allTrue (xorC g a b) m = (holds g m == (holds a m != holds b m)) := by
  simp only [xorC, allTrue, tru, List.all_cons, List.all_nil, List.any_cons, List.any_nil, holds_neg m hg, holds_neg m ha, holds_neg m hb]
  cases holds g m <;> cases holds a m <;> cases holds b m <;> rfl
theorem mostC_true {g a b c : Int} (hg : isLit g = true) (ha : isLit a = true) (hb : isLit b = true) (hc : isLit c = true) (m : List Bool) :
    allTrue (mostC g a b c) m = (holds g m == (holds a m && holds b m || holds a m && holds c m || holds b m && holds c m)) := by
  simp only [mostC, allTrue, tru, List.all_cons, List.all_nil, List.any_cons, List.any_nil, holds_neg m hg, holds_neg m ha, holds_neg m hb, holds_neg m hc]
  cases holds g m <;> cases holds a m <;> cases holds b m <;> cases holds c m <;> rfl

/-- a gate's clauses by its kind -/
def gateC (kind : Int) (g : Int) (l : List Int) : List (List Int) :=
  if kind = 1 then andC g l else if kind = 2 then orC g l else if kind = 3 then xorC g (l.getD 0 0) (l.getD 1 0) else mostC g (l.getD 0 0) (l.getD 1 0) (l.getD 2 0)
/-- what a gate says of a model -/
def says (kind : Int) (l : List Int) (m : List Bool) : Bool :=
  if kind = 1 then count l m == l.length else if kind = 2 then decide (0 < count l m) else if kind = 3 then count l m == 1 else decide (2 ≤ count l m)
theorem count_all (l : List Int) (m : List Bool) : (count l m == l.length) = l.all (holds · m) := by
  rw [Bool.eq_iff_iff, beq_iff_eq, List.all_eq_true]
  exact List.countP_eq_length
theorem count_any (l : List Int) (m : List Bool) : decide (0 < count l m) = l.any (holds · m) := by
  rw [Bool.eq_iff_iff, decide_eq_true_iff, List.any_eq_true]
  exact List.countP_pos_iff
theorem gateC_true {kind g : Int} {l : List Int} (hg : isLit g = true) (hl : ∀ x ∈ l, isLit x = true) (h3 : kind = 3 → l.length = 2) (h4 : kind ≠ 1 → kind ≠ 2 → kind ≠ 3 → l.length = 3) (m : List Bool) :
    allTrue (gateC kind g l) m = (holds g m == says kind l m) := by
  unfold gateC says
  by_cases h1 : kind = 1
  · rw [if_pos h1, if_pos h1, andC_true hg hl m, count_all]
  · rw [if_neg h1, if_neg h1]
    by_cases h2 : kind = 2
    · rw [if_pos h2, if_pos h2, orC_true hg hl m, count_any]
    · rw [if_neg h2, if_neg h2]
      by_cases h : kind = 3
      · rw [if_pos h, if_pos h]
        match l, h3 h, hl with
        | [a, b], _, hl =>
          rw [show ([a, b] : List Int).getD 0 0 = a from rfl, show ([a, b] : List Int).getD 1 0 = b from rfl, xorC_true hg (hl a (by simp)) (hl b (by simp)) m]
          simp only [count, List.countP_cons, List.countP_nil]
          cases holds a m <;> cases holds b m <;> simp
      · rw [if_neg h, if_neg h]
        match l, h4 h1 h2 h, hl with
        | [a, b, c], _, hl =>
          rw [show ([a, b, c] : List Int).getD 0 0 = a from rfl, show ([a, b, c] : List Int).getD 1 0 = b from rfl, show ([a, b, c] : List Int).getD 2 0 = c from rfl, mostC_true hg (hl a (by simp)) (hl b (by simp)) (hl c (by simp)) m]
          simp only [count, List.countP_cons, List.countP_nil]
          cases holds a m <;> cases holds b m <;> cases holds c m <;> simp
theorem gateC_lits {kind g : Int} {l : List Int} (hg : isLit g = true) (hl : ∀ x ∈ l, isLit x = true) (h3 : kind = 3 → l.length = 2) (h4 : kind ≠ 1 → kind ≠ 2 → kind ≠ 3 → l.length = 3) :
    ∀ c ∈ gateC kind g l, ∀ x ∈ c, isLit x = true := by
  have hn := hg; rw [← isLit_neg] at hn
  have hln : ∀ x ∈ l, isLit (-x) = true := fun x hx => by rw [isLit_neg]; exact hl x hx
  unfold gateC
  by_cases h1 : kind = 1
  · rw [if_pos h1]; intro c hc x hx
    simp only [andC, List.mem_append, List.mem_map, List.mem_singleton] at hc
    rcases hc with ⟨y, hy, rfl⟩ | rfl
    · simp at hx; rcases hx with rfl | rfl
      · exact hn
      · exact hl _ hy
    · simp at hx; rcases hx with rfl | ⟨y, hy, rfl⟩
      · exact hg
      · exact hln _ hy
  · rw [if_neg h1]
    by_cases h2 : kind = 2
    · rw [if_pos h2]; intro c hc x hx
      simp only [orC, List.mem_append, List.mem_map, List.mem_singleton] at hc
      rcases hc with ⟨y, hy, rfl⟩ | rfl
      · simp at hx; rcases hx with rfl | rfl
        · exact hg
        · exact hln _ hy
      · simp at hx; rcases hx with rfl | hx
        · exact hn
        · exact hl _ hx
    · rw [if_neg h2]
      by_cases h : kind = 3
      · rw [if_pos h]
        match l, h3 h, hl, hln with
        | [a, b], _, hl, hln =>
          have a1 := hl a (by simp); have b1 := hl b (by simp); have a2 := hln a (by simp); have b2 := hln b (by simp)
          intro c hc x hx
          simp [xorC] at hc
          rcases hc with rfl | rfl | rfl | rfl <;> simp at hx <;> rcases hx with rfl | rfl | rfl <;> assumption
      · rw [if_neg h]
        match l, h4 h1 h2 h, hl, hln with
        | [a, b, c], _, hl, hln =>
          have a1 := hl a (by simp); have b1 := hl b (by simp); have c1 := hl c (by simp); have a2 := hln a (by simp); have b2 := hln b (by simp); have c2 := hln c (by simp)
          intro d hd x hx
          simp [mostC] at hd
          rcases hd with rfl | rfl | rfl | rfl | rfl | rfl <;> simp at hx <;> rcases hx with rfl | rfl | rfl <;> assumption
/-- the clauses that let at most one be so -/
def oneC : List Int → List (List Int)
  | [] => []
  | a :: l => (l.filter (fun b => !(a == -b))).map (fun b => norm [-a, -b]) ++ oneC l
theorem holds_append {l : Int} (m k : List Bool) (h : vr l ≤ m.length) : holds l (m ++ k) = holds l m := by
  unfold holds
  cases hl : isLit l
  · rfl
  · have h' := (isLit_iff l).1 hl
    by_cases hn : l < 0
    · rw [vr_of_neg hn] at h
      rw [if_pos hn, if_pos hn, List.getD_eq_getElem?_getD, List.getD_eq_getElem?_getD, List.getElem?_append_left (by omega)]
    · rw [vr_of_pos hn] at h
      rw [if_neg hn, if_neg hn, List.getD_eq_getElem?_getD, List.getD_eq_getElem?_getD, List.getElem?_append_left (by omega)]
theorem count_append {l : List Int} (m k : List Bool) (h : ∀ x ∈ l, vr x ≤ m.length) : count l (m ++ k) = count l m := by
  unfold count
  exact List.countP_congr fun x hx => by rw [holds_append m k (h x hx)]
theorem says_append (kind : Int) {l : List Int} (m k : List Bool) (h : ∀ x ∈ l, vr x ≤ m.length) : says kind l (m ++ k) = says kind l m := by
  unfold says; rw [count_append m k h]
end Go.Proofs.YtnmcajinaigcjaaGreatDoor.C.M
namespace Go.Proofs.YtnmcajinaigcjaaGreatDoor.C.M

/-- a gate: its kind, its literals -/
abbrev G := Int × List Int
/-- as many literals as its kind has -/
def Fits (g : G) : Prop := (g.1 = 3 → g.2.length = 2) ∧ (g.1 ≠ 1 → g.1 ≠ 2 → g.1 ≠ 3 → g.2.length = 3)
/-- the clauses of gates, the first of which is the variable V + 1 -/
def gatesC (V : Nat) (gs : List G) : List (List Int) := (List.range gs.length).foldl (fun cs i => (gateC (gs.getD i (0, [])).1 ((V + i + 1 : Nat) : Int) (gs.getD i (0, [])).2).foldl addC cs) []
/-- a model with what the gates say -/
def ext (m : List Bool) (gs : List G) : List Bool := gs.foldl (fun m g => m ++ [says g.1 g.2 m]) m
/-- each gate's literals are those of the variables so far -/
def Gok (V : Nat) (gs : List G) : Prop := ∀ i g, gs[i]? = some g → own (V + i) g.2 = true ∧ Fits g

theorem gatesC_nil (V : Nat) : gatesC V [] = [] := rfl
theorem gatesC_snoc (V : Nat) (gs : List G) (g : G) : gatesC V (gs ++ [g]) = (gateC g.1 ((V + gs.length + 1 : Nat) : Int) g.2).foldl addC (gatesC V gs) := by
  unfold gatesC
  rw [List.length_append, List.length_singleton, List.range_succ, List.foldl_append, List.foldl_cons, List.foldl_nil]
  have e1 : (gs ++ [g]).getD gs.length (0, []) = g := by simp [List.getD]
  rw [e1]
  congr 1
  have : ∀ (l : List Nat) (cs : List (List Int)), (∀ i ∈ l, i < gs.length) → l.foldl (fun cs i => (gateC ((gs ++ [g]).getD i (0, [])).1 ((V + i + 1 : Nat) : Int) ((gs ++ [g]).getD i (0, [])).2).foldl addC cs) cs = l.foldl (fun cs i => (gateC (gs.getD i (0, [])).1 ((V + i + 1 : Nat) : Int) (gs.getD i (0, [])).2).foldl addC cs) cs := by
    intro l
    induction l with
    | nil => intro cs _; rfl
    | cons i l ih =>
      intro cs h
      have hi := h i (by simp)
      rw [List.foldl_cons, List.foldl_cons, ih _ (fun j hj => h j (List.mem_cons_of_mem _ hj))]
      rw [show (gs ++ [g]).getD i (0, []) = gs.getD i (0, []) from by simp [List.getD, List.getElem?_append_left hi]]
  exact this _ _ (fun i hi => List.mem_range.1 hi)
theorem ext_nil (m : List Bool) : ext m [] = m := rfl
theorem ext_snoc (m : List Bool) (gs : List G) (g : G) : ext m (gs ++ [g]) = ext m gs ++ [says g.1 g.2 (ext m gs)] := by
  simp [ext, List.foldl_append]
theorem ext_length (m : List Bool) (gs : List G) : (ext m gs).length = m.length + gs.length := by
  induction gs generalizing m with
  | nil => simp [ext]
  | cons g gs ih => simp only [ext, List.foldl_cons] at ih ⊢; rw [ih]; simp; omega
theorem own_vr {n : Nat} {l : List Int} (h : own n l = true) : ∀ x ∈ l, vr x ≤ n := by
  intro x hx
  have := (own_iff n l).1 h x hx
  by_cases hn : x < 0
  · rw [vr_of_neg hn]; omega
  · rw [vr_of_pos hn]; omega
/-- what a model says of the gates -/
theorem gatesC_true {V : Nat} {gs : List G} (h : Gok V gs) (hV : V + gs.length ≤ 20000) (m : List Bool) :
    allTrue (gatesC V gs) m = true ↔ ∀ i g, gs[i]? = some g → holds ((V + i + 1 : Nat) : Int) m = says g.1 g.2 m := by
  have main : ∀ gs : List G, Gok V gs → V + gs.length ≤ 20000 → (allTrue (gatesC V gs) m = true ↔ ∀ i g, gs[i]? = some g → holds ((V + i + 1 : Nat) : Int) m = says g.1 g.2 m) := by
    intro gs
    generalize hn : gs.length = n
    induction n generalizing gs with
    | zero =>
      intro _ _
      rw [List.eq_nil_of_length_eq_zero hn]
      simp [gatesC, allTrue]
    | succ n ih =>
      intro hok hV
      rcases List.eq_nil_or_concat gs with rfl | ⟨gs', g, rfl⟩
      · simp at hn
      · rw [List.concat_eq_append] at *
        have hl : gs'.length = n := by simpa using hn
        have hok' : Gok V gs' := fun i g' hg' => hok i g' (by rw [List.getElem?_append_left (Array.getElem?_eq_some_iff.1 (by simpa using hg' : gs'.toArray[i]? = some g')).1]; exact hg')
        have hg := hok gs'.length g (by simp)
        have hgl : isLit ((V + gs'.length + 1 : Nat) : Int) = true := by rw [isLit_iff]; omega
        have hll := own_isLit (vars := V + gs'.length) (by omega) hg.1
        rw [gatesC_snoc, allTrue_addCs _ _ (gateC_lits hgl hll hg.2.1 hg.2.2) m, gateC_true hgl hll hg.2.1 hg.2.2 m, Bool.and_eq_true, beq_iff_eq, ih gs' hl hok' (by omega)]
        constructor
        · rintro ⟨h1, h2⟩ i g' hg'
          by_cases hi : i < gs'.length
          · rw [List.getElem?_append_left hi] at hg'; exact h1 i g' hg'
          · have hi2 : i = gs'.length := by
              rcases Nat.lt_or_ge i (gs' ++ [g]).length with h' | h'
              · simp at h'; omega
              · rw [List.getElem?_eq_none h'] at hg'; cases hg'
            subst hi2
            simp at hg'; subst hg'; exact h2
        · intro hall
          refine ⟨fun i g' hg' => hall i g' ?_, hall gs'.length g (by simp)⟩
          have hi : i < gs'.length := by
            rcases Nat.lt_or_ge i gs'.length with h' | h'
            · exact h'
            · rw [List.getElem?_eq_none h'] at hg'; cases hg'
          rw [List.getElem?_append_left hi]; exact hg'
  exact main gs h hV
theorem says_take {k : Int} {l : List Int} {n : Nat} (h : ∀ x ∈ l, vr x ≤ n) (m : List Bool) (hm : n ≤ m.length) : says k l m = says k l (m.take n) := by
  have := says_append k (l := l) (m.take n) (m.drop n) (fun x hx => by rw [List.length_take, Nat.min_eq_left hm]; exact h x hx)
  rw [List.take_append_drop] at this
  exact this
theorem ext_take (m : List Bool) (gs : List G) (i : Nat) (hi : i ≤ gs.length) : (ext m gs).take (m.length + i) = ext m (gs.take i) := by
  have hpre : ∀ (gs' : List G) (m : List Bool), ∃ k, ext m gs' = m ++ k := by
    intro gs'
    induction gs' with
    | nil => intro m; exact ⟨[], by simp [ext]⟩
    | cons g gs' ih =>
      intro m
      obtain ⟨k, hk⟩ := ih (m ++ [says g.1 g.2 m])
      exact ⟨[says g.1 g.2 m] ++ k, by simp only [ext, List.foldl_cons] at hk ⊢; rw [hk]; simp⟩
  have e : ext m gs = ext (ext m (gs.take i)) (gs.drop i) := by
    unfold ext
    rw [← List.foldl_append, List.take_append_drop]
  obtain ⟨k, hk⟩ := hpre (gs.drop i) (ext m (gs.take i))
  rw [e, hk]
  have hl : (ext m (gs.take i)).length = m.length + i := by rw [ext_length, List.length_take, Nat.min_eq_left hi]
  rw [← hl]; exact List.take_left
theorem ext_get (m : List Bool) (gs : List G) (i : Nat) (g : G) (hg : gs[i]? = some g) : (ext m gs)[m.length + i]? = some (says g.1 g.2 (ext m (gs.take i))) := by
  have hi : i < gs.length := by
    rcases Nat.lt_or_ge i gs.length with h' | h'
    · exact h'
    · rw [List.getElem?_eq_none h'] at hg; cases hg
  have h1 := ext_take m gs (i + 1) (by omega)
  have e2 : gs.take (i + 1) = gs.take i ++ [g] := by rw [List.take_add_one, hg]; rfl
  rw [e2, ext_snoc] at h1
  have hl : (ext m (gs.take i)).length = m.length + i := by rw [ext_length, List.length_take, Nat.min_eq_left (by omega)]
  have h2 : ((ext m gs).take (m.length + (i + 1)))[m.length + i]? = some (says g.1 g.2 (ext m (gs.take i))) := by
    rw [h1, ← hl, List.getElem?_append_right (Nat.le_refl _)]; simp
  rw [List.getElem?_take, if_pos (by omega)] at h2
  exact h2
theorem holds_pos {n : Nat} (hn : n + 1 ≤ 20000) (m : List Bool) : holds ((n + 1 : Nat) : Int) m = m[n]?.getD false := by
  have hl : isLit ((n + 1 : Nat) : Int) = true := by rw [isLit_iff]; omega
  have hv : vr ((n + 1 : Nat) : Int) = (n : Int) + 1 := by rw [vr_of_pos (by omega)]; omega
  rw [holds_at hl hv m, decide_eq_true (by omega)]
  cases m[n]?.getD false <;> rfl
/-- with what the gates say all clauses are true -/
theorem gates_hold {V : Nat} {gs : List G} (h : Gok V gs) (hV : V + gs.length ≤ 20000) (m : List Bool) (hm : m.length = V) : allTrue (gatesC V gs) (ext m gs) = true := by
  rw [gatesC_true h hV]
  intro i g hg
  have hi : i < gs.length := by
    rcases Nat.lt_or_ge i gs.length with h' | h'
    · exact h'
    · rw [List.getElem?_eq_none h'] at hg; cases hg
  rw [show V + i + 1 = (V + i) + 1 from rfl, holds_pos (by omega)]
  have h1 := ext_get m gs i g hg
  rw [hm] at h1
  rw [h1]
  have h2 := ext_take m gs i (by omega)
  rw [hm] at h2
  rw [says_take (own_vr (h i g hg).1) (ext m gs) (by rw [ext_length]; omega), h2]
  rfl
/-- with one gate said otherwise they aren't -/
theorem gates_flip {V : Nat} {gs : List G} (h : Gok V gs) (hV : V + gs.length ≤ 20000) (m : List Bool) (hm : m.length = V) (i : Nat) (hi : i < gs.length) (b : Bool) (hb : (ext m gs)[V + i]? = some b) :
    allTrue (gatesC V gs) ((ext m gs).set (V + i) (!b)) = false := by
  cases hh : allTrue (gatesC V gs) ((ext m gs).set (V + i) (!b))
  · rfl
  · exfalso
    have hg : gs[i]? = some gs[i] := List.getElem?_eq_getElem hi
    have h1 := (gatesC_true h hV _).1 hh i _ hg
    have hl : (ext m gs).length = V + gs.length := by rw [ext_length, hm]
    rw [show V + i + 1 = (V + i) + 1 from rfl, holds_pos (by omega), List.getElem?_set_self (by omega)] at h1
    rw [says_take (own_vr (h i _ hg).1) _ (by rw [List.length_set]; omega)] at h1
    have e : ((ext m gs).set (V + i) (!b)).take (V + i) = (ext m gs).take (V + i) := List.take_set_of_le (Nat.le_refl _)
    have h2 := ext_get m gs i _ hg
    rw [hm, hb] at h2
    have h3 := ext_take m gs i (by omega)
    rw [hm] at h3
    rw [e, h3] at h1
    have h4 := Option.some.inj h2
    rw [← h4] at h1
    cases b <;> simp at h1
theorem gateC_length (k g : Int) (l : List Int) : (gateC k g l).length ≤ l.length + 6 := by
  unfold gateC
  split
  · simp [andC]
  · split
    · simp [orC]
    · split
      · simp [xorC]
      · simp [mostC]
theorem gatesC_length {V : Nat} {gs : List G} {L : Nat} (h : ∀ g ∈ gs, g.2.length ≤ L) : (gatesC V gs).length ≤ gs.length * (L + 6) := by
  have main : ∀ n, ∀ gs : List G, gs.length = n → (∀ g ∈ gs, g.2.length ≤ L) → (gatesC V gs).length ≤ n * (L + 6) := by
    intro n
    induction n with
    | zero => intro gs hn _; rw [List.eq_nil_of_length_eq_zero hn]; simp [gatesC]
    | succ n ih =>
      intro gs hn hL
      rcases List.eq_nil_or_concat gs with rfl | ⟨gs', g, rfl⟩
      · simp at hn
      · rw [List.concat_eq_append] at *
        have h1 := ih gs' (by simpa using hn) (fun g' hg' => hL g' (by simp [hg']))
        have h2 := hL g (by simp)
        rw [gatesC_snoc]
        have h3 := addCs_length (gatesC V gs') (gateC g.1 ((V + gs'.length + 1 : Nat) : Int) g.2)
        have h4 := gateC_length g.1 ((V + gs'.length + 1 : Nat) : Int) g.2
        rw [Nat.add_mul]; omega
  exact main _ gs rfl h
end Go.Proofs.YtnmcajinaigcjaaGreatDoor.C.M
namespace Go.Proofs.YtnmcajinaigcjaaGreatDoor.C.M

/-- a weighted literal: the literal, its weight -/
abbrev Wt := Int × Int
def wOk (t : Wt) : Bool := decide (0 ≤ t.2) && decide (t.2 ≤ 1048576)
theorem wOk_iff (t : Wt) : wOk t = true ↔ 0 ≤ t.2 ∧ t.2 ≤ 1048576 := by simp [wOk]
def wSum (ts : List Wt) : Nat := (ts.map fun t => t.2.toNat).sum
def wCnt (ts : List Wt) : Nat := ts.countP fun t => decide (0 < t.2)
def wVal (ts : List Wt) (m : List Bool) : Nat := (ts.map fun t => if holds t.1 m then t.2.toNat else 0).sum
theorem wSum_snoc {ts : List Wt} {k : Nat} {t : Wt} (h : ts[k]? = some t) : wSum (ts.take (k + 1)) = wSum (ts.take k) + t.2.toNat := by
  rw [List.take_add_one, h]; simp [wSum]
theorem wCnt_snoc {ts : List Wt} {k : Nat} {t : Wt} (h : ts[k]? = some t) : wCnt (ts.take (k + 1)) = wCnt (ts.take k) + (if 0 < t.2 then 1 else 0) := by
  rw [List.take_add_one, h]; simp [wCnt, List.countP_append, List.countP_cons]
theorem wVal_snoc {ts : List Wt} {k : Nat} {t : Wt} (m : List Bool) (h : ts[k]? = some t) : wVal (ts.take (k + 1)) m = wVal (ts.take k) m + (if holds t.1 m then t.2.toNat else 0) := by
  rw [List.take_add_one, h]; simp [wVal]
theorem sum_le {ts : List Wt} (h : ts.all wOk = true) : wSum ts ≤ ts.length * 1048576 := by
  induction ts with
  | nil => simp [wSum]
  | cons t ts ih =>
    simp only [List.all_cons, Bool.and_eq_true] at h
    have h1 := (wOk_iff t).1 h.1
    have := ih h.2
    simp only [wSum, List.map_cons, List.sum_cons, List.length_cons] at this ⊢
    omega
theorem val_le (ts : List Wt) (m : List Bool) : wVal ts m ≤ wSum ts := by
  induction ts with
  | nil => simp [wVal, wSum]
  | cons t ts ih =>
    simp only [wVal, wSum, List.map_cons, List.sum_cons] at ih ⊢
    split <;> omega
theorem cnt_le (ts : List Wt) : wCnt ts ≤ ts.length := List.countP_le_length
theorem wSum_append (a b : List Wt) : wSum (a ++ b) = wSum a + wSum b := by simp [wSum]
theorem wCnt_append (a b : List Wt) : wCnt (a ++ b) = wCnt a + wCnt b := by simp [wCnt]
theorem wVal_append (a b : List Wt) (m : List Bool) : wVal (a ++ b) m = wVal a m + wVal b m := by simp [wVal]

/-! ### digits -/
def num : List Bool → Nat
  | [] => 0
  | b :: l => b.toNat + 2 * num l
theorem num_append (a b : List Bool) : num (a ++ b) = num a + 2 ^ a.length * num b := by
  induction a with
  | nil => simp [num]
  | cons x a ih =>
    simp only [List.cons_append, num, ih, List.length_cons, Nat.pow_succ, Nat.mul_add]
    have : 2 ^ a.length * 2 * num b = 2 * (2 ^ a.length * num b) := by rw [Nat.mul_comm (2 ^ a.length) 2, Nat.mul_assoc]
    omega
theorem num_lt (a : List Bool) : num a < 2 ^ a.length := by
  induction a with
  | nil => simp [num]
  | cons x a ih =>
    simp only [num, List.length_cons, Nat.pow_succ]
    cases x <;> simp <;> omega
theorem num_snoc {ds : List Bool} {k : Nat} {b : Bool} (h : ds[k]? = some b) : num (ds.take (k + 1)) = num (ds.take k) + (if b then 2 ^ k else 0) := by
  have hk : k < ds.length := (List.getElem?_eq_some_iff.1 h).1
  rw [List.take_add_one, h, Option.toList_some, num_append, List.length_take, Nat.min_eq_left (by omega)]
  cases b <;> simp [num]
/-- a number's binary digits -/
def dig (n : Nat) : List Bool := if h : n = 0 then [] else decide (n % 2 = 1) :: dig (n / 2)
termination_by n
decreasing_by omega
theorem dig_zero : dig 0 = [] := by rw [dig]; simp
theorem dig_pos {n : Nat} (h : n ≠ 0) : dig n = decide (n % 2 = 1) :: dig (n / 2) := by rw [dig, dif_neg h]
theorem num_dig (n : Nat) : num (dig n) = n := by
  induction n using Nat.strongRecOn with
  | _ n ih =>
    by_cases h : n = 0
    · subst h; rw [dig_zero]; rfl
    · rw [dig_pos h, num, ih (n / 2) (by omega)]
      by_cases h1 : n % 2 = 1
      · simp [h1]; omega
      · simp [h1]; omega
theorem dig_fits (n : Nat) : n < 2 ^ (dig n).length := by
  have := num_lt (dig n)
  rwa [num_dig] at this
theorem dig_len {n k : Nat} (h : n < 2 ^ k) : (dig n).length ≤ k := by
  induction k generalizing n with
  | zero =>
    have : n = 0 := by simpa using h
    subst this; rw [dig_zero]; simp
  | succ k ih =>
    by_cases h0 : n = 0
    · subst h0; rw [dig_zero]; simp
    · rw [dig_pos h0, List.length_cons]
      have := ih (n := n / 2) (by rw [Nat.pow_succ] at h; omega)
      omega
theorem dig_mono {a b : Nat} (h : a ≤ b) : (dig a).length ≤ (dig b).length := dig_len (Nat.lt_of_le_of_lt h (dig_fits b))

/-! ### columns -/
def ld (f : List Int → Nat) : List (List Int) → Nat
  | [] => 0
  | x :: L => f x + 2 * ld f L
def lens (L : List (List Int)) : Nat := (L.map List.length).sum
theorem ld_congr {f g : List Int → Nat} {L : List (List Int)} (h : ∀ x ∈ L, f x = g x) : ld f L = ld g L := by
  induction L with
  | nil => rfl
  | cons x L ih => simp only [ld]; rw [h x (by simp), ih fun y hy => h y (by simp [hy])]
theorem Gok.snoc {V : Nat} {gs : List G} {g : G} (h : Gok V gs) (h1 : own (V + gs.length) g.2 = true) (h2 : Fits g) : Gok V (gs ++ [g]) := by
  intro i g' hg
  by_cases hi : i < gs.length
  · rw [List.getElem?_append_left hi] at hg; exact h i g' hg
  · have hi2 : i = gs.length := by
      have := (List.getElem?_eq_some_iff.1 hg).1
      simp at this; omega
    subst hi2
    simp at hg; subst hg; exact ⟨h1, h2⟩
theorem own_mono {n k : Nat} (h : n ≤ k) {l : List Int} (ho : own n l = true) : own k l = true := by
  rw [own_iff] at ho ⊢
  intro x hx
  have := ho x hx
  omega
theorem own_append {n : Nat} {a b : List Int} : own n (a ++ b) = true ↔ own n a = true ∧ own n b = true := by
  simp [own]
theorem own_cons {n : Nat} {x : Int} {b : List Int} : own n (x :: b) = true ↔ own n [x] = true ∧ own n b = true := by
  simp [own]
theorem own_new (n : Nat) : own (n + 1) [((n + 1 : Nat) : Int)] = true := by
  rw [own_iff]; intro x hx; simp at hx; subst hx; omega
/-- a literal of the variables so far says of a model with a gate more what it said -/
theorem holds_more {V : Nat} {gs : List G} {m : List Bool} (hm : m.length = V) {x : Int} (hx : own (V + gs.length) [x] = true) (g : G) : holds x (ext m (gs ++ [g])) = holds x (ext m gs) := by
  rw [ext_snoc]
  refine holds_append _ _ ?_
  rw [ext_length, hm]
  exact own_vr hx x (by simp)
theorem count_more {V : Nat} {gs : List G} {m : List Bool} (hm : m.length = V) {l : List Int} (hx : own (V + gs.length) l = true) (g : G) : count l (ext m (gs ++ [g])) = count l (ext m gs) := by
  rw [ext_snoc]
  refine count_append _ _ ?_
  rw [ext_length, hm]
  exact own_vr hx
theorem holds_new {V : Nat} {gs : List G} {m : List Bool} (hm : m.length = V) (g : G) (hV : V + gs.length + 1 ≤ 20000) : holds ((V + gs.length + 1 : Nat) : Int) (ext m (gs ++ [g])) = says g.1 g.2 (ext m gs) := by
  rw [holds_pos hV, ext_snoc, List.getElem?_append_right (by rw [ext_length, hm]; omega), ext_length, hm]
  simp
theorem count_one (x : Int) (m : List Bool) : count [x] m = (holds x m).toNat := by
  unfold count; cases h : holds x m <;> simp [h]
theorem count_cons (x : Int) (l : List Int) (m : List Bool) : count (x :: l) m = (holds x m).toNat + count l m := by
  unfold count; cases h : holds x m <;> simp [h]; omega
theorem count_snoc1 (x : Int) (l : List Int) (m : List Bool) : count (l ++ [x]) m = count l m + (holds x m).toNat := by
  unfold count; rw [List.countP_append]; cases h : holds x m <;> simp [h]
theorem says_xor (x y : Int) (m : List Bool) : says 3 [x, y] m = (holds x m ^^ holds y m) := by
  show (count [x, y] m == 1) = _
  rw [count_cons, count_one]; cases holds x m <;> cases holds y m <;> rfl
theorem says_and2 (x y : Int) (m : List Bool) : says 1 [x, y] m = (holds x m && holds y m) := by
  show (count [x, y] m == 2) = _
  rw [count_cons, count_one]; cases holds x m <;> cases holds y m <;> rfl
theorem says_most (x y z : Int) (m : List Bool) : says 4 [x, y, z] m = (holds x m && holds y m || holds x m && holds z m || holds y m && holds z m) := by
  show decide (2 ≤ count [x, y, z] m) = _
  rw [count_cons, count_cons, count_one]; cases holds x m <;> cases holds y m <;> cases holds z m <;> rfl
theorem says_or0 (m : List Bool) : says 2 [] m = false := rfl

/-- what stands between the steps: gates, the columns that are left, the bits so far -/
structure SI (V sum B : Nat) (val : List Bool → Nat) (at' : Nat) (gs : List G) (L : List (List Int)) (bits : List Int) : Prop where
  bl : bits.length = at'
  ok : Gok V gs
  small : ∀ g ∈ gs, g.2.length ≤ 3
  ownL : ∀ x ∈ L, own (V + gs.length) x = true
  ownb : own (V + gs.length) bits = true
  load : 2 ^ at' * ld List.length L ≤ sum
  fits : sum < 2 ^ (at' + L.length)
  gates : gs.length + 3 * lens L + L.length ≤ B
  lim : V + B ≤ 20000
  val : ∀ m, m.length = V → num (bits.map (holds · (ext m gs))) + 2 ^ at' * ld (count · (ext m gs)) L = val m
section
variable {V sum B : Nat} {val : List Bool → Nat} {at' : Nat} {gs : List G} {L : List (List Int)} {bits : List Int}
theorem SI.next (h : SI V sum B val at' gs L bits) {c : List Int} {R : List (List Int)} (hL : L = c :: R) (h2 : 2 ≤ c.length) : ∃ d R', R = d :: R' := by
  subst hL
  cases R with
  | cons d R => exact ⟨d, R, rfl⟩
  | nil =>
    have h1 := h.load
    have h3 := h.fits
    simp only [ld, List.length_cons, List.length_nil, Nat.pow_add] at h1 h3
    have h4 : 2 ^ at' * 2 ≤ 2 ^ at' * (c.length + 2 * 0) := Nat.mul_le_mul_left _ (by omega)
    omega
/-- a gate more -/
theorem SI.gate (h : SI V sum B val at' gs L bits) {g : G} (h1 : own (V + gs.length) g.2 = true) (h2 : Fits g) (h3 : g.2.length ≤ 3) (hlim : gs.length + 1 + 3 * lens L + L.length ≤ B) : SI V sum B val at' (gs ++ [g]) L bits := by
  have e : V + (gs ++ [g]).length = V + gs.length + 1 := by simp; omega
  refine ⟨h.bl, h.ok.snoc h1 h2, fun g' hg => ?_, fun x hx => ?_, ?_, h.load, h.fits, by simp; omega, h.lim, fun m hm => ?_⟩
  · rcases List.mem_append.1 hg with hg | hg
    · exact h.small g' hg
    · simp at hg; subst hg; exact h3
  · rw [e]; exact own_mono (by omega) (h.ownL x hx)
  · rw [e]; exact own_mono (by omega) h.ownb
  · rw [← h.val m hm]
    congr 1
    · congr 1
      refine List.map_congr_left fun x hx => ?_
      refine holds_more hm ?_ g
      exact (own_iff _ _).2 fun y hy => by simp at hy; subst hy; exact (own_iff _ _).1 h.ownb _ hx
    · congr 1
      exact ld_congr fun x hx => count_more hm (h.ownL x hx) g
theorem SI.full {x y z : Int} {r d : List Int} {R : List (List Int)} (h : SI V sum B val at' gs ((x :: y :: z :: r) :: d :: R) bits) :
    own (V + gs.length) [x, y] = true ∧ own (V + gs.length + 1) [((V + gs.length + 1 : Nat) : Int), z] = true ∧ own (V + gs.length + 2) [x, y, z] = true ∧ V + gs.length + 3 ≤ 20000 ∧
    Gok V (gs ++ [((3 : Int), [x, y])]) ∧ Gok V (gs ++ [((3 : Int), [x, y])] ++ [((3 : Int), [((V + gs.length + 1 : Nat) : Int), z])]) ∧
    SI V sum B val at' (gs ++ [((3 : Int), [x, y])] ++ [((3 : Int), [((V + gs.length + 1 : Nat) : Int), z])] ++ [((4 : Int), [x, y, z])]) ((r ++ [((V + gs.length + 2 : Nat) : Int)]) :: (d ++ [((V + gs.length + 3 : Nat) : Int)]) :: R) bits := by
  have hg0 := h.gates
  have hlim := h.lim
  simp only [lens, List.map_cons, List.sum_cons, List.length_cons] at hg0
  have hoc := h.ownL _ (List.mem_cons_self)
  have hod := h.ownL d (by simp)
  have hx : own (V + gs.length) [x] = true := (own_cons.1 hoc).1
  have hoc2 := (own_cons.1 hoc).2
  have hy : own (V + gs.length) [y] = true := (own_cons.1 hoc2).1
  have hoc3 := (own_cons.1 hoc2).2
  have hz : own (V + gs.length) [z] = true := (own_cons.1 hoc3).1
  have hr : own (V + gs.length) r = true := (own_cons.1 hoc3).2
  have a1 : own (V + gs.length) [x, y] = true := own_cons.2 ⟨hx, hy⟩
  have a2 : own (V + gs.length + 1) [((V + gs.length + 1 : Nat) : Int), z] = true := own_cons.2 ⟨own_new _, own_mono (by omega) hz⟩
  have a3 : own (V + gs.length + 2) [x, y, z] = true := own_mono (by omega) (own_cons.2 ⟨hx, own_cons.2 ⟨hy, hz⟩⟩)
  have e1 : V + (gs ++ [((3 : Int), [x, y])]).length = V + gs.length + 1 := by simp; omega
  have e2 : V + (gs ++ [((3 : Int), [x, y])] ++ [((3 : Int), [((V + gs.length + 1 : Nat) : Int), z])]).length = V + gs.length + 2 := by simp; omega
  have f3 : ∀ l : List Int, l.length = 2 → Fits ((3 : Int), l) := fun l hl => ⟨fun _ => hl, fun _ _ h => absurd rfl h⟩
  have f4 : ∀ l : List Int, l.length = 3 → Fits ((4 : Int), l) := fun l hl => ⟨fun h => by simp at h, fun _ _ _ => hl⟩
  have k1 : Gok V (gs ++ [((3 : Int), [x, y])]) := h.ok.snoc a1 (f3 _ rfl)
  have k2 : Gok V (gs ++ [((3 : Int), [x, y])] ++ [((3 : Int), [((V + gs.length + 1 : Nat) : Int), z])]) := k1.snoc (by rw [e1]; exact a2) (f3 _ rfl)
  have k3 : Gok V (gs ++ [((3 : Int), [x, y])] ++ [((3 : Int), [((V + gs.length + 1 : Nat) : Int), z])] ++ [((4 : Int), [x, y, z])]) := k2.snoc (by rw [e2]; exact a3) (f4 _ rfl)
  refine ⟨a1, a2, a3, by omega, k1, k2, h.bl, k3, fun g hg => ?_, fun c hc => ?_, ?_, ?_, ?_, ?_, hlim, fun m hm => ?_⟩
  · simp only [List.mem_append, List.mem_singleton] at hg
    rcases hg with ((hg | rfl) | rfl) | rfl
    · exact h.small g hg
    · simp
    · simp
    · simp
  · have e3 : V + (gs ++ [((3 : Int), [x, y])] ++ [((3 : Int), [((V + gs.length + 1 : Nat) : Int), z])] ++ [((4 : Int), [x, y, z])]).length = V + gs.length + 3 := by simp; omega
    rw [e3]
    rcases List.mem_cons.1 hc with rfl | hc
    · exact own_append.2 ⟨own_mono (by omega) hr, own_mono (by omega) (own_new (V + gs.length + 1))⟩
    · rcases List.mem_cons.1 hc with rfl | hc
      · exact own_append.2 ⟨own_mono (by omega) hod, own_mono (by omega) (own_new (V + gs.length + 2))⟩
      · exact own_mono (by omega) (h.ownL c (by simp [hc]))
  · exact own_mono (by simp only [List.length_append, List.length_cons, List.length_nil]; omega) h.ownb
  · refine Nat.le_trans (Nat.mul_le_mul_left _ ?_) h.load
    simp only [ld, List.length_append, List.length_cons, List.length_nil]
    omega
  · have := h.fits; simp only [List.length_cons] at this ⊢; exact this
  · simp only [lens, List.map_cons, List.sum_cons, List.length_cons, List.length_append, List.length_nil]
    omega
  · rw [← h.val m hm]
    have ho : ∀ {l : List Int}, own (V + gs.length) l = true → count l (ext m (gs ++ [((3 : Int), [x, y])] ++ [((3 : Int), [((V + gs.length + 1 : Nat) : Int), z])] ++ [((4 : Int), [x, y, z])])) = count l (ext m gs) := fun {l} hl => by
      rw [count_more hm (by rw [e2]; exact own_mono (by omega) hl), count_more hm (by rw [e1]; exact own_mono (by omega) hl), count_more hm hl]
    have ho1 : ∀ {q : Int}, own (V + gs.length) [q] = true → holds q (ext m (gs ++ [((3 : Int), [x, y])] ++ [((3 : Int), [((V + gs.length + 1 : Nat) : Int), z])] ++ [((4 : Int), [x, y, z])])) = holds q (ext m gs) := fun {q} hq => by
      rw [holds_more hm (by rw [e2]; exact own_mono (by omega) hq), holds_more hm (by rw [e1]; exact own_mono (by omega) hq), holds_more hm hq]
    have hb : holds ((V + gs.length + 2 : Nat) : Int) (ext m (gs ++ [((3 : Int), [x, y])] ++ [((3 : Int), [((V + gs.length + 1 : Nat) : Int), z])] ++ [((4 : Int), [x, y, z])])) = ((holds x (ext m gs) ^^ holds y (ext m gs)) ^^ holds z (ext m gs)) := by
      rw [holds_more hm (by rw [e2]; exact own_new (V + gs.length + 1))]
      have := holds_new hm (gs := gs ++ [((3 : Int), [x, y])]) ((3 : Int), [((V + gs.length + 1 : Nat) : Int), z]) (by rw [e1]; omega)
      rw [e1] at this
      rw [this, says_xor, holds_new hm _ (by omega), says_xor, holds_more hm hz]
    have hc : holds ((V + gs.length + 3 : Nat) : Int) (ext m (gs ++ [((3 : Int), [x, y])] ++ [((3 : Int), [((V + gs.length + 1 : Nat) : Int), z])] ++ [((4 : Int), [x, y, z])])) = (holds x (ext m gs) && holds y (ext m gs) || holds x (ext m gs) && holds z (ext m gs) || holds y (ext m gs) && holds z (ext m gs)) := by
      have := holds_new hm (gs := gs ++ [((3 : Int), [x, y])] ++ [((3 : Int), [((V + gs.length + 1 : Nat) : Int), z])]) ((4 : Int), [x, y, z]) (by rw [e2]; omega)
      rw [e2] at this
      rw [this, says_most]
      have hq : ∀ {q : Int}, own (V + gs.length) [q] = true → holds q (ext m (gs ++ [((3 : Int), [x, y])] ++ [((3 : Int), [((V + gs.length + 1 : Nat) : Int), z])])) = holds q (ext m gs) := fun {q} hq => by
        rw [holds_more hm (by rw [e1]; exact own_mono (by omega) hq), holds_more hm hq]
      rw [hq hx, hq hy, hq hz]
    have E1 : bits.map (holds · (ext m (gs ++ [((3 : Int), [x, y])] ++ [((3 : Int), [((V + gs.length + 1 : Nat) : Int), z])] ++ [((4 : Int), [x, y, z])]))) = bits.map (holds · (ext m gs)) := List.map_congr_left fun q hq => ho1 ((own_iff _ _).2 fun y hy => by simp at hy; subst hy; exact (own_iff _ _).1 h.ownb _ hq)
    rw [E1]
    simp only [ld]
    rw [count_snoc1, count_snoc1, hb, hc, ho hr, ho hod, ld_congr (g := (count · (ext m gs))) (fun q hq => ho (h.ownL q (by simp [hq])))]
    rw [count_cons, count_cons, count_cons]
    have E3 : ∀ A B C : Nat, B = C → A + 2 ^ at' * B = A + 2 ^ at' * C := fun A B C h => by rw [h]
    refine E3 _ _ _ ?_
    generalize holds x (ext m gs) = u1
    generalize holds y (ext m gs) = u2
    generalize holds z (ext m gs) = u3
    cases u1 <;> cases u2 <;> cases u3 <;> simp <;> omega
theorem SI.last1 {x : Int} {R : List (List Int)} (h : SI V sum B val at' gs ([x] :: R) bits) : SI V sum B val (at' + 1) gs R (bits ++ [x]) := by
  have hg0 := h.gates
  simp only [lens, List.map_cons, List.sum_cons, List.length_cons, List.length_nil] at hg0
  have hox := h.ownL _ (List.mem_cons_self)
  refine ⟨by simp [h.bl], h.ok, h.small, fun c hc => h.ownL c (by simp [hc]), own_append.2 ⟨h.ownb, hox⟩, ?_, ?_, by simp only [lens]; omega, h.lim, fun m hm => ?_⟩
  · refine Nat.le_trans ?_ h.load
    simp only [ld, List.length_cons, List.length_nil, Nat.pow_succ, Nat.mul_add, Nat.mul_assoc]
    omega
  · have := h.fits
    rw [show at' + 1 + R.length = at' + ([x] :: R).length by simp; omega]; exact this
  · rw [← h.val m hm, List.map_append, num_append, List.length_map, h.bl]
    simp only [ld, count_one, Nat.pow_succ, Nat.mul_add, List.map_cons, List.map_nil, num, Nat.mul_assoc]
    omega
theorem SI.last0 {R : List (List Int)} (h : SI V sum B val at' gs ([] :: R) bits) : V + gs.length + 1 ≤ 20000 ∧ SI V sum B val (at' + 1) (gs ++ [((2 : Int), ([] : List Int))]) R (bits ++ [((V + gs.length + 1 : Nat) : Int)]) := by
  have hg0 := h.gates
  have hlim := h.lim
  simp only [lens, List.map_cons, List.sum_cons, List.length_cons, List.length_nil] at hg0
  have e : V + (gs ++ [((2 : Int), ([] : List Int))]).length = V + gs.length + 1 := by simp; omega
  refine ⟨by omega, by simp [h.bl], h.ok.snoc (by simp [own]) ⟨fun h => by simp at h, fun _ h => absurd rfl h⟩, fun g hg => ?_, fun c hc => ?_, ?_, ?_, ?_, ?_, hlim, fun m hm => ?_⟩
  · rcases List.mem_append.1 hg with hg | hg
    · exact h.small g hg
    · simp at hg; subst hg; simp
  · rw [e]; exact own_mono (by omega) (h.ownL c (by simp [hc]))
  · rw [e]; exact own_append.2 ⟨own_mono (by omega) h.ownb, own_new _⟩
  · refine Nat.le_trans ?_ h.load
    simp only [ld, List.length_nil, Nat.pow_succ, Nat.mul_add, Nat.mul_assoc]
    omega
  · have := h.fits
    rw [show at' + 1 + R.length = at' + ([] :: R : List (List Int)).length by simp; omega]; exact this
  · simp only [List.length_append, List.length_cons, List.length_nil, lens]; omega
  · rw [← h.val m hm, List.map_append, num_append, List.length_map, h.bl]
    simp only [List.map_cons, List.map_nil, num]
    rw [holds_new hm _ (by omega), says_or0]
    have e1 : bits.map (holds · (ext m (gs ++ [((2 : Int), ([] : List Int))]))) = bits.map (holds · (ext m gs)) := List.map_congr_left fun q hq => holds_more hm ((own_iff _ _).2 fun y hy => by simp at hy; subst hy; exact (own_iff _ _).1 h.ownb _ hq) _
    have e2 : ld (count · (ext m (gs ++ [((2 : Int), ([] : List Int))]))) R = ld (count · (ext m gs)) R := ld_congr fun q hq => count_more hm (h.ownL q (by simp [hq])) _
    rw [e1, e2]
    simp only [ld, Nat.pow_succ, Nat.mul_assoc, show count [] (ext m gs) = 0 from rfl]
    simp
theorem SI.last2 {x y : Int} {d : List Int} {R : List (List Int)} (h : SI V sum B val at' gs ([x, y] :: d :: R) bits) :
    own (V + gs.length) [x, y] = true ∧ own (V + gs.length + 1) [x, y] = true ∧ V + gs.length + 2 ≤ 20000 ∧ Gok V (gs ++ [((3 : Int), [x, y])]) ∧
    SI V sum B val (at' + 1) (gs ++ [((3 : Int), [x, y])] ++ [((1 : Int), [x, y])]) ((d ++ [((V + gs.length + 2 : Nat) : Int)]) :: R) (bits ++ [((V + gs.length + 1 : Nat) : Int)]) := by
  have hg0 := h.gates
  have hlim := h.lim
  simp only [lens, List.map_cons, List.sum_cons, List.length_cons, List.length_nil] at hg0
  have hoc := h.ownL _ (List.mem_cons_self)
  have hod := h.ownL d (by simp)
  have hx : own (V + gs.length) [x] = true := (own_cons.1 hoc).1
  have hy : own (V + gs.length) [y] = true := (own_cons.1 hoc).2
  have e1 : V + (gs ++ [((3 : Int), [x, y])]).length = V + gs.length + 1 := by simp; omega
  have e2 : V + (gs ++ [((3 : Int), [x, y])] ++ [((1 : Int), [x, y])]).length = V + gs.length + 2 := by simp; omega
  have k1 : Gok V (gs ++ [((3 : Int), [x, y])]) := h.ok.snoc hoc ⟨fun _ => rfl, fun _ _ h => absurd rfl h⟩
  have a2 : own (V + gs.length + 1) [x, y] = true := own_mono (by omega) hoc
  have k2 : Gok V (gs ++ [((3 : Int), [x, y])] ++ [((1 : Int), [x, y])]) := k1.snoc (by rw [e1]; exact a2) ⟨fun h => by simp at h, fun h => absurd rfl h⟩
  refine ⟨hoc, a2, by omega, k1, by simp [h.bl], k2, fun g hg => ?_, fun c hc => ?_, ?_, ?_, ?_, ?_, hlim, fun m hm => ?_⟩
  · simp only [List.mem_append, List.mem_singleton] at hg
    rcases hg with (hg | rfl) | rfl
    · exact h.small g hg
    · simp
    · simp
  · rw [e2]
    rcases List.mem_cons.1 hc with rfl | hc
    · exact own_append.2 ⟨own_mono (by omega) hod, own_new (V + gs.length + 1)⟩
    · exact own_mono (by omega) (h.ownL c (by simp [hc]))
  · rw [e2]; exact own_append.2 ⟨own_mono (by omega) h.ownb, own_mono (by omega) (own_new (V + gs.length))⟩
  · refine Nat.le_trans ?_ h.load
    rw [Nat.pow_succ, Nat.mul_assoc]
    refine Nat.mul_le_mul_left _ ?_
    simp only [ld, List.length_append, List.length_cons, List.length_nil]
    omega
  · have := h.fits
    rw [show at' + 1 + ((d ++ [((V + gs.length + 2 : Nat) : Int)]) :: R).length = at' + ([x, y] :: d :: R).length by simp; omega]; exact this
  · simp only [lens, List.map_cons, List.sum_cons, List.length_cons, List.length_append, List.length_nil]
    omega
  · have ho1 : ∀ {q : Int}, own (V + gs.length) [q] = true → holds q (ext m (gs ++ [((3 : Int), [x, y])] ++ [((1 : Int), [x, y])])) = holds q (ext m gs) := fun {q} hq => by
      rw [holds_more hm (by rw [e1]; exact own_mono (by omega) hq), holds_more hm hq]
    have ho : ∀ {l : List Int}, own (V + gs.length) l = true → count l (ext m (gs ++ [((3 : Int), [x, y])] ++ [((1 : Int), [x, y])])) = count l (ext m gs) := fun {l} hl => by
      rw [count_more hm (by rw [e1]; exact own_mono (by omega) hl), count_more hm hl]
    have hb : holds ((V + gs.length + 1 : Nat) : Int) (ext m (gs ++ [((3 : Int), [x, y])] ++ [((1 : Int), [x, y])])) = (holds x (ext m gs) ^^ holds y (ext m gs)) := by
      rw [holds_more hm (by rw [e1]; exact own_new _), holds_new hm _ (by omega), says_xor]
    have hc : holds ((V + gs.length + 2 : Nat) : Int) (ext m (gs ++ [((3 : Int), [x, y])] ++ [((1 : Int), [x, y])])) = (holds x (ext m gs) && holds y (ext m gs)) := by
      have := holds_new hm (gs := gs ++ [((3 : Int), [x, y])]) ((1 : Int), [x, y]) (by rw [e1]; omega)
      rw [e1] at this
      rw [this, says_and2, holds_more hm hx, holds_more hm hy]
    have e4 : bits.map (holds · (ext m (gs ++ [((3 : Int), [x, y])] ++ [((1 : Int), [x, y])]))) = bits.map (holds · (ext m gs)) := List.map_congr_left fun q hq => ho1 ((own_iff _ _).2 fun y hy => by simp at hy; subst hy; exact (own_iff _ _).1 h.ownb _ hq)
    rw [← h.val m hm, List.map_append, num_append, List.length_map, h.bl, e4]
    simp only [List.map_cons, List.map_nil, num, ld]
    rw [hb, count_snoc1, hc, ho hod, ld_congr (g := (count · (ext m gs))) (fun q hq => ho (h.ownL q (by simp [hq]))), count_cons, count_one]
    rw [Nat.pow_succ, Nat.mul_assoc, Nat.add_assoc, ← Nat.mul_add]
    have E3 : ∀ A B C : Nat, B = C → A + 2 ^ at' * B = A + 2 ^ at' * C := fun A B C h => by rw [h]
    refine E3 _ _ _ ?_
    generalize holds x (ext m gs) = u1
    generalize holds y (ext m gs) = u2
    cases u1 <;> cases u2 <;> simp <;> omega
end
end Go.Proofs.YtnmcajinaigcjaaGreatDoor.C.M
namespace Go.Proofs.YtnmcajinaigcjaaGreatDoor.C.M

theorem ld_set {f : List Int → Nat} : ∀ {cols : List (List Int)} {j : Nat} {x : List Int} (y : List Int), cols[j]? = some x → ld f (cols.set j y) + 2 ^ j * f x = ld f cols + 2 ^ j * f y
  | [], j, x, y, h => by simp at h
  | c :: cols, 0, x, y, h => by
    simp at h; subst h
    simp only [List.set_cons_zero, ld]; omega
  | c :: cols, j + 1, x, y, h => by
    have ih := ld_set (f := f) (cols := cols) (j := j) (x := x) y (by simpa using h)
    simp only [List.set_cons_succ, ld, Nat.pow_succ]
    have e1 : 2 ^ j * 2 * f x = 2 * (2 ^ j * f x) := by rw [Nat.mul_comm (2 ^ j) 2, Nat.mul_assoc]
    have e2 : 2 ^ j * 2 * f y = 2 * (2 ^ j * f y) := by rw [Nat.mul_comm (2 ^ j) 2, Nat.mul_assoc]
    omega
theorem lens_set : ∀ {cols : List (List Int)} {j : Nat} {x : List Int} (y : List Int), cols[j]? = some x → lens (cols.set j y) + x.length = lens cols + y.length
  | [], j, x, y, h => by simp at h
  | c :: cols, 0, x, y, h => by
    simp at h; subst h
    simp only [List.set_cons_zero, lens, List.map_cons, List.sum_cons]; omega
  | c :: cols, j + 1, x, y, h => by
    have ih := lens_set (cols := cols) (j := j) (x := x) y (by simpa using h)
    simp only [List.set_cons_succ, lens, List.map_cons, List.sum_cons] at ih ⊢; omega
/-- the columns so far: their load, their value in each model, how many literals -/
structure FI (V n S : Nat) (W : List Bool → Nat) (N : Nat) (cols : List (List Int)) : Prop where
  len : cols.length = n
  own : ∀ x ∈ cols, own V x = true
  load : ld List.length cols = S
  val : ∀ m, ld (count · m) cols = W m
  lens : lens cols ≤ N
theorem FI.start (V n : Nat) : FI V n 0 (fun _ => 0) 0 (List.replicate n []) := by
  refine ⟨by simp, fun x hx => by rw [(List.mem_replicate.1 hx).2]; rfl, ?_, fun m => ?_, ?_⟩
  · induction n with
    | zero => rfl
    | succ n ih => rw [List.replicate_succ, ld, ih]; rfl
  · induction n with
    | zero => rfl
    | succ n ih => rw [List.replicate_succ, ld, ih]; rfl
  · induction n with
    | zero => exact Nat.le_refl _
    | succ n ih =>
      have e : M.lens (List.replicate (n + 1) ([] : List Int)) = 0 + M.lens (List.replicate n ([] : List Int)) := rfl
      rw [e]; omega
theorem FI.put {V n S N j : Nat} {W : List Bool → Nat} {cols : List (List Int)} {x : List Int} {lit : Int} (h : FI V n S W N cols) (hx : cols[j]? = some x) (ho : M.own V [lit] = true) :
    FI V n (S + 2 ^ j) (fun m => W m + 2 ^ j * (holds lit m).toNat) (N + 1) (cols.set j (x ++ [lit])) := by
  refine ⟨by simp [h.len], fun y hy => ?_, ?_, fun m => ?_, ?_⟩
  · rcases List.mem_or_eq_of_mem_set hy with hy | rfl
    · exact h.own y hy
    · exact own_append.2 ⟨h.own x (List.mem_of_getElem? hx), ho⟩
  · have := ld_set (f := List.length) (x ++ [lit]) hx
    rw [h.load, List.length_append, List.length_singleton, Nat.mul_add, Nat.mul_one] at this
    omega
  · have := ld_set (f := (count · m)) (x ++ [lit]) hx
    rw [h.val m, count_snoc1, Nat.mul_add] at this
    omega
  · have h1 := lens_set (x ++ [lit]) hx
    have h2 := h.lens
    rw [List.length_append, List.length_singleton] at h1
    omega
theorem FI.eq {V n S S' N N' : Nat} {W W' : List Bool → Nat} {cols : List (List Int)} (h : FI V n S W N cols) (h1 : S = S') (h2 : ∀ m, W m = W' m) (h3 : N ≤ N') : FI V n S' W' N' cols := by
  subst h1
  exact ⟨h.len, h.own, h.load, fun m => (h.val m).trans (h2 m), Nat.le_trans h.lens h3⟩
theorem FI.si {V n N B : Nat} {ts : List Wt} {cols : List (List Int)} (h : FI V n (wSum ts) (wVal ts) N cols) (hn : n = (dig (wSum ts)).length) (hB : 3 * N + n ≤ B) (hV : V + B ≤ 20000) : SI V (wSum ts) B (wVal ts) 0 [] cols [] := by
  refine ⟨rfl, fun i g hg => by simp at hg, fun g hg => by simp at hg, fun x hx => h.own x hx, rfl, by rw [h.load]; omega, ?_, ?_, hV, fun m _ => ?_⟩
  · rw [Nat.zero_add, h.len, hn]; exact dig_fits _
  · have := h.lens; rw [h.len]; simp only [List.length_nil]; omega
  · rw [ext_nil, h.val m]; simp [num]
/-- in the round of a term: its literal's digits so far -/
theorem FI.digit {V n S N j : Nat} {W : List Bool → Nat} {cols : List (List Int)} {x : List Int} {lit : Int} {ds : List Bool} (h : FI V n (S + num (ds.take j)) (fun m => W m + num (ds.take j) * (holds lit m).toNat) N cols) (hd : ds[j]? = some true) (hx : cols[j]? = some x) (ho : M.own V [lit] = true) :
    FI V n (S + num (ds.take (j + 1))) (fun m => W m + num (ds.take (j + 1)) * (holds lit m).toNat) (N + 1) (cols.set j (x ++ [lit])) := by
  have e := num_snoc hd
  rw [if_pos rfl] at e
  refine (h.put hx ho).eq (by rw [e]; omega) (fun m => ?_) (Nat.le_refl _)
  rw [e, Nat.add_mul]; omega
theorem FI.skip {V n S N j : Nat} {W : List Bool → Nat} {cols : List (List Int)} {lit : Int} {ds : List Bool} (h : FI V n (S + num (ds.take j)) (fun m => W m + num (ds.take j) * (holds lit m).toNat) N cols) (hd : ds[j]? = some false) :
    FI V n (S + num (ds.take (j + 1))) (fun m => W m + num (ds.take (j + 1)) * (holds lit m).toNat) N cols := by
  have e := num_snoc hd
  rw [if_neg (by simp), Nat.add_zero] at e
  exact h.eq (by rw [e]; rfl) (fun m => by rw [e]; rfl) (Nat.le_refl _)
theorem FI.term {V n N k : Nat} {ts : List Wt} {t : Wt} {cols : List (List Int)} (ht : ts[k]? = some t) (h : FI V n (wSum (ts.take k) + num (dig t.2.toNat)) (fun m => wVal (ts.take k) m + num (dig t.2.toNat) * (holds t.1 m).toNat) N cols) : FI V n (wSum (ts.take (k + 1))) (wVal (ts.take (k + 1))) N cols := by
  refine h.eq (by rw [wSum_snoc ht, num_dig]) (fun m => ?_) (Nat.le_refl _)
  rw [wVal_snoc m ht, num_dig]
  cases holds t.1 m <;> simp
/-- how many literals the columns get -/
def ones (ds : List Bool) : Nat := ds.countP id
def wLen (ts : List Wt) : Nat := (ts.map fun t => ones (dig t.2.toNat)).sum
theorem ones_yes {ds : List Bool} {j : Nat} (h : ds[j]? = some true) : ones (ds.take (j + 1)) = ones (ds.take j) + 1 := by
  unfold ones; rw [List.take_add_one, h, List.countP_append]; rfl
theorem ones_no {ds : List Bool} {j : Nat} (h : ds[j]? = some false) : ones (ds.take (j + 1)) = ones (ds.take j) := by
  unfold ones; rw [List.take_add_one, h, List.countP_append]; rfl
theorem ones_le (ds : List Bool) : ones ds ≤ ds.length := List.countP_le_length
theorem wLen_snoc {ts : List Wt} {k : Nat} {t : Wt} (h : ts[k]? = some t) : wLen (ts.take (k + 1)) = wLen (ts.take k) + ones (dig t.2.toNat) := by
  rw [List.take_add_one, h]; simp [wLen]
theorem dig_w {t : Wt} (h : wOk t = true) : (dig t.2.toNat).length ≤ 21 := by
  have := (wOk_iff t).1 h
  exact dig_len (by omega)
theorem wSum_mem {ts : List Wt} {t : Wt} (h : t ∈ ts) : t.2.toNat ≤ wSum ts := by
  induction ts with
  | nil => simp at h
  | cons x ts ih =>
    simp only [wSum, List.map_cons, List.sum_cons] at ih ⊢
    rcases List.mem_cons.1 h with rfl | h
    · omega
    · have := ih h; omega
theorem wLen_le {ts : List Wt} (h : ts.all wOk = true) : wLen ts ≤ 21 * ts.length := by
  induction ts with
  | nil => simp [wLen]
  | cons t ts ih =>
    simp only [List.all_cons, Bool.and_eq_true] at h
    have h1 := dig_w h.1
    have h2 := ones_le (dig t.2.toNat)
    have h3 := ih h.2
    simp only [wLen, List.map_cons, List.sum_cons, List.length_cons] at h3 ⊢
    omega
end Go.Proofs.YtnmcajinaigcjaaGreatDoor.C.M

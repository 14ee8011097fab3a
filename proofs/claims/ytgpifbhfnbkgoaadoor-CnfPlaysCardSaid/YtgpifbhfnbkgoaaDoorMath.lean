/- Plain facts about literals, their order, right clauses, models and propagation: no program in sight. -/
namespace Go.Proofs.YtgpifbhfnbkgoaaDoor.M

def isLit (l : Int) : Bool := !(l == 0) && decide (-20000 ≤ l) && decide (l ≤ 20000)
def vr (l : Int) : Int := if l < 0 then -l else l
def less (a b : Int) : Bool := decide (vr a < vr b) || (vr a == vr b && decide (a < b))

theorem isLit_iff (l : Int) : isLit l = true ↔ l ≠ 0 ∧ -20000 ≤ l ∧ l ≤ 20000 := by
  simp [isLit, and_assoc]
theorem isLit_false (l : Int) : isLit l = false ↔ l = 0 ∨ l < -20000 ∨ 20000 < l := by
  rw [← Bool.not_eq_true, isLit_iff]; omega
theorem isLit_neg (l : Int) : isLit (-l) = isLit l := by
  rw [Bool.eq_iff_iff, isLit_iff, isLit_iff]; omega
theorem vr_of_neg {l : Int} (h : l < 0) : vr l = -l := if_pos h
theorem vr_of_pos {l : Int} (h : ¬ l < 0) : vr l = l := if_neg h
theorem vr_neg (l : Int) : vr (-l) = vr l := by
  by_cases h : l < 0
  · rw [vr_of_neg h, vr_of_pos (by omega)]
  · rw [vr_of_pos h]
    by_cases h0 : l = 0
    · subst h0; rfl
    · rw [vr_of_neg (by omega)]; omega
theorem vr_eq {a b : Int} (h : vr a = vr b) : a = b ∨ a = -b := by
  by_cases h1 : a < 0 <;> by_cases h2 : b < 0 <;> simp only [vr, h1, h2, if_true, if_false] at h <;> omega
theorem vr_nonneg (l : Int) : 0 ≤ vr l := by unfold vr; split <;> omega
theorem less_iff (a b : Int) : less a b = true ↔ vr a < vr b ∨ (vr a = vr b ∧ a < b) := by
  simp [less]
theorem less_false (a b : Int) : less a b = false ↔ vr b < vr a ∨ (vr a = vr b ∧ b ≤ a) := by
  rw [← Bool.not_eq_true, less_iff]; omega
theorem less_irrefl (a : Int) : less a a = false := by rw [less_false]; omega
theorem less_trans {a b c : Int} (h : less a b = true) (k : less b c = true) : less a c = true := by
  rw [less_iff] at *; omega
theorem less_total {a b : Int} (h : less a b = false) (k : less b a = false) : a = b := by
  rw [less_false] at *; omega
theorem less_asymm {a b : Int} (h : less a b = true) : less b a = false := by
  rw [less_iff] at h; rw [less_false]; omega

/-- literals' order, as a number -/
def cmp (a b : Int) : Int := if vr a < vr b then -1 else if vr b < vr a then 1 else if a < b then -1 else if b < a then 1 else 0
theorem cmp_neg (a b : Int) : (0 ≤ cmp a b) ↔ less a b = false := by
  rw [less_false]; unfold cmp; (repeat' split) <;> omega
theorem cmp_less (a b : Int) : (cmp a b < 0) ↔ less a b = true := by
  rw [less_iff]; unfold cmp; (repeat' split) <;> omega

/-- literals in order, one more -/
def put : List Int → Int → List Int
  | [], x => [x]
  | y :: l, x => if less y x then y :: put l x else if y = x then y :: l else x :: y :: l
def norm (l : List Int) : List Int := l.foldl put []
abbrev Sorted (l : List Int) : Prop := l.Pairwise (fun a b => less a b = true)

theorem mem_put (l : List Int) (x y : Int) : y ∈ put l x ↔ y = x ∨ y ∈ l := by
  induction l with
  | nil => simp [put]
  | cons z l ih =>
    rw [put]
    split
    · simp [ih]; constructor
      · rintro (h | h | h) <;> simp [h]
      · rintro (h | h | h) <;> simp [h]
    · split
      · rename_i h; subst h; simp
      · simp
theorem sorted_put {l : List Int} (h : Sorted l) (x : Int) : Sorted (put l x) := by
  induction l with
  | nil => simp [put, Sorted]
  | cons z l ih =>
    have h1 := List.pairwise_cons.1 h
    rw [put]
    split
    · rename_i hz
      refine List.pairwise_cons.2 ⟨fun y hy => ?_, ih h1.2⟩
      rcases (mem_put l x y).1 hy with rfl | hy
      · exact hz
      · exact h1.1 y hy
    · rename_i hz
      split
      · exact h
      · rename_i hne
        have hxz : less x z = true := by
          cases hh : less x z
          · exact absurd (less_total (by simpa using hz) hh) hne
          · rfl
        refine List.pairwise_cons.2 ⟨fun y hy => ?_, h⟩
        rcases List.mem_cons.1 hy with rfl | hy
        · exact hxz
        · exact less_trans hxz (h1.1 y hy)
theorem put_length (l : List Int) (x : Int) : (put l x).length ≤ l.length + 1 := by
  induction l with
  | nil => simp [put]
  | cons z l ih =>
    rw [put]; split
    · simp; omega
    · split <;> simp
theorem put_mem_eq {l : List Int} (h : Sorted l) {x : Int} (hx : x ∈ l) : put l x = l := by
  induction l with
  | nil => simp at hx
  | cons z l ih =>
    have h1 := List.pairwise_cons.1 h
    rw [put]
    rcases List.mem_cons.1 hx with rfl | hx
    · simp [less_irrefl]
    · rw [if_pos (h1.1 x hx), ih h1.2 hx]
theorem put_split : ∀ (l : List Int) (k : Nat) (x : Int), (∀ i y, i < k → l[i]? = some y → less y x = true) → (∀ y, l[k]? = some y → less y x = false) → k ≤ l.length →
    put l x = if l[k]? = some x then l else l.take k ++ x :: l.drop k
  | [], k, x, _, _, hk => by simp at hk; subst hk; simp [put]
  | z :: l, 0, x, _, h2, _ => by
    have := h2 z (by simp)
    rw [put, this]
    simp
  | z :: l, k + 1, x, h1, h2, hk => by
    have hz := h1 0 z (by omega) (by simp)
    rw [put, if_pos hz, put_split l k x (fun i y hi hy => h1 (i + 1) y (by omega) (by simpa using hy)) (fun y hy => h2 y (by simpa using hy)) (by simpa using hk)]
    simp only [List.getElem?_cons_succ]
    split <;> simp
theorem mem_foldl_put (l acc : List Int) (y : Int) : y ∈ l.foldl put acc ↔ y ∈ l ∨ y ∈ acc := by
  induction l generalizing acc with
  | nil => simp
  | cons x l ih => simp [ih, mem_put]; constructor
                   · rintro (h | h | h) <;> simp [h]
                   · rintro ((h | h) | h) <;> simp [h]
theorem sorted_foldl_put (l acc : List Int) (h : Sorted acc) : Sorted (l.foldl put acc) := by
  induction l generalizing acc with
  | nil => exact h
  | cons x l ih => exact ih _ (sorted_put h x)
theorem mem_norm (l : List Int) (y : Int) : y ∈ norm l ↔ y ∈ l := by simp [norm, mem_foldl_put]
theorem sorted_norm (l : List Int) : Sorted (norm l) := sorted_foldl_put l [] List.Pairwise.nil
/-- there is one list in order of given literals -/
theorem sorted_ext : ∀ {a b : List Int}, Sorted a → Sorted b → (∀ x, x ∈ a ↔ x ∈ b) → a = b
  | [], [], _, _, _ => rfl
  | [], y :: b, _, _, h => by have := (h y).2 (by simp); simp at this
  | x :: a, [], _, _, h => by have := (h x).1 (by simp); simp at this
  | x :: a, y :: b, ha, hb, h => by
    have ha1 := List.pairwise_cons.1 ha
    have hb1 := List.pairwise_cons.1 hb
    have hxy : x = y := by
      rcases List.mem_cons.1 ((h x).1 (by simp)) with hx | hx
      · exact hx
      · rcases List.mem_cons.1 ((h y).2 (by simp)) with hy | hy
        · exact hy.symm
        · have h1 := hb1.1 x hx
          have h2 := ha1.1 y hy
          rw [less_asymm h1] at h2; cases h2
    subst hxy
    congr 1
    refine sorted_ext ha1.2 hb1.2 fun z => ?_
    constructor
    · intro hz
      rcases List.mem_cons.1 ((h z).1 (by simp [hz])) with rfl | hz'
      · have := ha1.1 _ hz; rw [less_irrefl] at this; cases this
      · exact hz'
    · intro hz
      rcases List.mem_cons.1 ((h z).2 (by simp [hz])) with rfl | hz'
      · have := hb1.1 _ hz; rw [less_irrefl] at this; cases this
      · exact hz'
theorem norm_eq_self {l : List Int} (h : Sorted l) : norm l = l := sorted_ext (sorted_norm l) h (mem_norm l)
theorem norm_of_mem {a : List Int} (l : List Int) (h : Sorted a) (hm : ∀ x, x ∈ a ↔ x ∈ l) : a = norm l :=
  sorted_ext h (sorted_norm l) (fun x => (hm x).trans (mem_norm l x).symm)
theorem norm_length (l : List Int) : (norm l).length ≤ l.length := by
  have : ∀ (l acc : List Int), (l.foldl put acc).length ≤ acc.length + l.length := by
    intro l
    induction l with
    | nil => simp
    | cons x l ih => intro acc; have := ih (put acc x); have := put_length acc x; simp; omega
  simpa [norm] using this l []

/-- each element comes behind the one ahead of it -/
def chain : List Int → Bool
  | a :: b :: l => less a b && chain (b :: l)
  | _ => true
theorem chain_iff : ∀ l : List Int, chain l = true ↔ Sorted l
  | [] => by simp [chain, Sorted]
  | [a] => by simp [chain, Sorted]
  | a :: b :: l => by
    have ih := chain_iff (b :: l)
    simp only [chain, Bool.and_eq_true, ih]
    constructor
    · rintro ⟨h1, h2⟩
      refine List.pairwise_cons.2 ⟨fun y hy => ?_, h2⟩
      rcases List.mem_cons.1 hy with rfl | hy
      · exact h1
      · exact less_trans h1 ((List.pairwise_cons.1 h2).1 y hy)
    · intro h
      exact ⟨(List.pairwise_cons.1 h).1 b (by simp), (List.pairwise_cons.1 h).2⟩
def right (c : List Int) : Bool := c.all isLit && chain c
theorem right_iff (c : List Int) : right c = true ↔ (∀ x ∈ c, isLit x = true) ∧ norm c = c := by
  simp only [right, Bool.and_eq_true, List.all_eq_true, chain_iff]
  constructor
  · rintro ⟨h1, h2⟩; exact ⟨h1, norm_eq_self h2⟩
  · rintro ⟨h1, h2⟩; exact ⟨h1, by rw [← h2]; exact sorted_norm c⟩
theorem right_sorted {c : List Int} (h : right c = true) : Sorted c := by
  have := (right_iff c).1 h; rw [← this.2]; exact sorted_norm c

theorem right_take {c : List Int} (k : Nat) (h : right c = true) : right (c.take k) = true := by
  have h1 : ∀ x ∈ c, isLit x = true := ((right_iff c).1 h).1
  have h2 := right_sorted h
  simp only [right, Bool.and_eq_true, List.all_eq_true, chain_iff]
  exact ⟨fun x hx => h1 x (List.mem_of_mem_take hx), h2.sublist (List.take_sublist k c)⟩
theorem right_nil : right [] = true := rfl
theorem right_one (z : Int) : right [z] = isLit z := by simp [right, chain]
theorem right_append (l : List Int) (y z : Int) (hl : right (l ++ [y]) = true) : right (l ++ [y] ++ [z]) = (isLit z && less y z) := by
  have h1 := ((right_iff _).1 hl).1
  have h2 := right_sorted hl
  rw [Bool.eq_iff_iff]
  simp only [right, Bool.and_eq_true, List.all_eq_true, chain_iff]
  constructor
  · rintro ⟨a, b⟩
    refine ⟨a z (by simp), ?_⟩
    exact (List.pairwise_append.1 b).2.2 y (by simp) z (by simp)
  · rintro ⟨a, b⟩
    refine ⟨fun x hx => ?_, List.pairwise_append.2 ⟨h2, by simp, fun x hx w hw => ?_⟩⟩
    · rcases List.mem_append.1 hx with hx | hx
      · exact h1 x hx
      · simp at hx; subst hx; exact a
    · simp at hw; subst hw
      rcases List.mem_append.1 hx with hx | hx
      · exact less_trans ((List.pairwise_append.1 h2).2.2 x hx y (by simp)) b
      · simp at hx; subst hx; exact b
theorem right_snoc0 {zs : List Int} {z : Int} (h : zs[0]? = some z) : right (zs.take 1) = isLit z := by
  cases zs with
  | nil => simp at h
  | cons a l => simp at h; subst h; simp [right_one]
theorem right_snoc {zs : List Int} {k : Nat} {y z : Int} (hy : zs[k]? = some y) (hz : zs[k + 1]? = some z) (hr : right (zs.take (k + 1)) = true) : right (zs.take (k + 1 + 1)) = (isLit z && less y z) := by
  have e1 : zs.take (k + 1) = zs.take k ++ [y] := by rw [List.take_add_one, hy]; rfl
  have e2 : zs.take (k + 1 + 1) = zs.take k ++ [y] ++ [z] := by rw [List.take_add_one, hz, e1]; rfl
  rw [e1] at hr
  rw [e2, right_append _ _ _ hr]
theorem right_step {zs : List Int} {k : Nat} {y z : Int} (hk : 0 < k) (hy : zs[k - 1]? = some y) (hz : zs[k]? = some z) (hr : right (zs.take k) = true) : right (zs.take (k + 1)) = (isLit z && less y z) := by
  obtain ⟨j, rfl⟩ : ∃ j, k = j + 1 := ⟨k - 1, by omega⟩
  exact right_snoc hy hz hr
theorem right_zero {zs : List Int} {k : Nat} {z : Int} (hk : ¬ 0 < k) (hz : zs[k]? = some z) : right (zs.take (k + 1)) = isLit z := by
  obtain rfl : k = 0 := by omega
  exact right_snoc0 hz
theorem right_miss {zs : List Int} {k : Nat} (h : right (zs.take k) = false) : right zs = false := by
  cases hh : right zs
  · rfl
  · rw [right_take k hh] at h; cases h

/-- two that stand side by side are opposites -/
def adj : List Int → Bool
  | a :: b :: l => (b == -a) || adj (b :: l)
  | _ => false
theorem adj_iff : ∀ {l : List Int}, Sorted l → (∀ x ∈ l, x ≠ 0) → (adj l = true ↔ ∃ x, x ∈ l ∧ -x ∈ l)
  | [], _, _ => by simp [adj]
  | [a], _, h0 => by
    have := h0 a (by simp)
    simp [adj]
    omega
  | a :: b :: l, hs, h0 => by
    have h1 := List.pairwise_cons.1 hs
    have ih := adj_iff h1.2 (fun x hx => h0 x (List.mem_cons_of_mem _ hx))
    have ha := h0 a (by simp)
    simp only [adj, Bool.or_eq_true, beq_iff_eq, ih]
    constructor
    · rintro (h | ⟨x, hx, hy⟩)
      · exact ⟨a, by simp, by simp [h]⟩
      · exact ⟨x, List.mem_cons_of_mem _ hx, List.mem_cons_of_mem _ hy⟩
    · rintro ⟨x, hx, hy⟩
      -- the one with the lesser number first
      have key : ∀ x, x < 0 → x ∈ a :: b :: l → -x ∈ a :: b :: l → (b = -a ∨ ∃ y, y ∈ b :: l ∧ -y ∈ b :: l) := by
        intro x hneg hx hy
        rcases List.mem_cons.1 hx with rfl | hx
        · rcases List.mem_cons.1 hy with hy | hy
          · omega
          · rcases List.mem_cons.1 hy with hy | hy
            · exact .inl hy.symm
            · left
              have e1 := h1.1 b (by simp)
              have e2 := (List.pairwise_cons.1 h1.2).1 _ hy
              rw [less_iff] at e1 e2
              rw [vr_neg] at e2
              have hb : vr b = vr x := by omega
              rcases vr_eq hb with h | h
              · omega
              · exact h
        · rcases List.mem_cons.1 hy with hy | hy
          · exfalso
            have e1 := h1.1 x hx
            rw [less_iff, ← hy] at e1
            rw [vr_neg] at e1
            omega
          · exact .inr ⟨x, hx, hy⟩
      have hx0 := h0 x hx
      rcases Int.lt_or_lt_of_ne hx0 with h | h
      · exact key x h hx hy
      · exact key (-x) (by omega) hy (by simpa using hx)
theorem filter_isLit_of_all {c : List Int} (h : ∀ x ∈ c, isLit x = true) : c.filter isLit = c := List.filter_eq_self.2 h
theorem filter_keep {zs : List Int} {k : Nat} {z : Int} (h : zs[k]? = some z) (hz : isLit z = true) : (zs.take (k + 1)).filter isLit = (zs.take k).filter isLit ++ [z] := by
  rw [List.take_add_one, h]; simp [hz]
theorem filter_drop {zs : List Int} {k : Nat} {z : Int} (h : zs[k]? = some z) (hz : isLit z = false) : (zs.take (k + 1)).filter isLit = (zs.take k).filter isLit := by
  rw [List.take_add_one, h]; simp [hz]
theorem adj_take1 (ys : List Int) : adj (ys.take 1) = false := by
  cases ys with
  | nil => rfl
  | cons a l => simp [adj]
theorem adj_snoc : ∀ (l : List Int) (y z : Int), adj (l ++ [y] ++ [z]) = (adj (l ++ [y]) || (z == -y))
  | [], y, z => by simp [adj]
  | [a], y, z => by simp [adj]
  | a :: b :: l, y, z => by
    have := adj_snoc (b :: l) y z
    simp only [List.cons_append, adj] at *
    rw [this]; simp [Bool.or_assoc]
theorem adj_step {ys : List Int} {k : Nat} {y z : Int} (hk : 1 ≤ k) (hy : ys[k - 1]? = some y) (hz : ys[k]? = some z) : adj (ys.take (k + 1)) = (adj (ys.take k) || (z == -y)) := by
  obtain ⟨j, rfl⟩ : ∃ j, k = j + 1 := ⟨k - 1, by omega⟩
  have hy' : ys[j]? = some y := hy
  have e1 : ys.take (j + 1) = ys.take j ++ [y] := by rw [List.take_add_one, hy']; rfl
  have e2 : ys.take (j + 1 + 1) = ys.take j ++ [y] ++ [z] := by rw [List.take_add_one, hz, e1]; rfl
  rw [e2, e1, adj_snoc]
theorem adj_append : ∀ (l k : List Int), adj l = true → adj (l ++ k) = true
  | [], _, h => by simp [adj] at h
  | [a], _, h => by simp [adj] at h
  | a :: b :: l, k, h => by
    simp only [List.cons_append, adj, Bool.or_eq_true] at *
    rcases h with h | h
    · exact .inl h
    · exact .inr (adj_append (b :: l) k h)
theorem adj_hit {ys : List Int} {k : Nat} {y z : Int} (hk : 1 ≤ k) (hy : ys[k - 1]? = some y) (hz : ys[k]? = some z) (h : (z == -y) = true) : adj ys = true := by
  have := adj_append (ys.take (k + 1)) (ys.drop (k + 1)) (by rw [adj_step hk hy hz, h, Bool.or_true])
  rwa [List.take_append_drop] at this
/-- the right clause of those that are literals -/
def only (c : List Int) : List Int := norm (c.filter isLit)
theorem only_of_right {c : List Int} (h : right c = true) : only c = c := by
  have h' := (right_iff c).1 h
  rw [only, filter_isLit_of_all h'.1, h'.2]
theorem mem_only (c : List Int) (x : Int) : x ∈ only c ↔ x ∈ c ∧ isLit x = true := by simp [only, mem_norm]
theorem sorted_only (c : List Int) : Sorted (only c) := sorted_norm _
theorem adj_only (c : List Int) : adj (only c) = true ↔ ∃ x, x ∈ c ∧ isLit x = true ∧ -x ∈ c := by
  rw [adj_iff (sorted_only c) (fun x hx => ((isLit_iff x).1 ((mem_only c x).1 hx).2).1)]
  constructor
  · rintro ⟨x, hx, hy⟩
    exact ⟨x, ((mem_only c x).1 hx).1, ((mem_only c x).1 hx).2, ((mem_only c _).1 hy).1⟩
  · rintro ⟨x, hx, hl, hy⟩
    exact ⟨x, (mem_only c x).2 ⟨hx, hl⟩, (mem_only c _).2 ⟨hy, by rw [isLit_neg]; exact hl⟩⟩

/-! models -/
def holds (l : Int) (m : List Bool) : Bool :=
  isLit l && (if l < 0 then !(m.getD (-l - 1).toNat false) else m.getD (l - 1).toNat false)
def tru (c : List Int) (m : List Bool) : Bool := c.any (holds · m)
def allTrue (cs : List (List Int)) (m : List Bool) : Bool := cs.all (tru · m)
theorem holds_neg {l : Int} (m : List Bool) (h : isLit l = true) : holds (-l) m = !(holds l m) := by
  have h' := (isLit_iff l).1 h
  have hn : isLit (-l) = true := by rw [isLit_neg]; exact h
  simp only [holds, h, hn, Bool.true_and]
  by_cases hl : l < 0
  · rw [if_neg (by omega), if_pos hl]; simp
  · rw [if_pos (by omega), if_neg hl]; simp
theorem tru_only (c : List Int) (m : List Bool) : tru (only c) m = tru c m := by
  rw [Bool.eq_iff_iff]
  simp only [tru, List.any_eq_true]
  constructor
  · rintro ⟨x, hx, h⟩; exact ⟨x, ((mem_only c x).1 hx).1, h⟩
  · rintro ⟨x, hx, h⟩
    refine ⟨x, (mem_only c x).2 ⟨hx, ?_⟩, h⟩
    simp only [holds, Bool.and_eq_true] at h; exact h.1

theorem vr_succ {l : Int} (h : isLit l = true) : ∃ v : Nat, vr l = (v : Int) + 1 := by
  have h' := (isLit_iff l).1 h
  have := vr_nonneg l
  have h0 : vr l ≠ 0 := by unfold vr; split <;> omega
  exact ⟨(vr l - 1).toNat, by omega⟩
theorem holds_at {z : Int} (h : isLit z = true) {v : Nat} (hv : vr z = (v : Int) + 1) (m : List Bool) : holds z m = ((m[v]?.getD false) == decide (0 < z)) := by
  have h' := (isLit_iff z).1 h
  by_cases hn : z < 0
  · rw [vr_of_neg hn] at hv
    rw [holds, h, if_pos hn, show (-z - 1).toNat = v by omega, decide_eq_false (by omega)]
    simp
  · rw [vr_of_pos hn] at hv
    rw [holds, h, if_neg hn, show (z - 1).toNat = v by omega, decide_eq_true (by omega)]
    simp
theorem holds_in {z : Int} (h : isLit z = true) {v : Nat} (hv : vr z = (v : Int) + 1) {m : List Bool} {y : Bool} (hy : m[v]? = some y) : holds z m = (y == decide (0 < z)) := by
  rw [holds_at h hv, hy]; rfl
theorem holds_out {z : Int} (h : isLit z = true) {v : Nat} (hv : vr z = (v : Int) + 1) {m : List Bool} (hy : m.length ≤ v) : holds z m = !(decide (0 < z)) := by
  rw [holds_at h hv, List.getElem?_eq_none hy]; simp
theorem tru_snoc {zs : List Int} {k : Nat} {z : Int} (h : zs[k]? = some z) (m : List Bool) : tru (zs.take (k + 1)) m = (tru (zs.take k) m || holds z m) := by
  rw [List.take_add_one, h]; simp [tru]
theorem tru_hit {zs : List Int} {k : Nat} {z : Int} (h : zs[k]? = some z) {m : List Bool} (ht : holds z m = true) : tru zs m = true :=
  List.any_eq_true.2 ⟨z, List.mem_of_getElem? h, ht⟩
theorem allTrue_snoc {cs : List (List Int)} {k : Nat} {c : List Int} (h : cs[k]? = some c) (m : List Bool) : allTrue (cs.take (k + 1)) m = (allTrue (cs.take k) m && tru c m) := by
  rw [List.take_add_one, h]; simp [allTrue]
theorem allTrue_miss {cs : List (List Int)} {k : Nat} {c : List Int} (h : cs[k]? = some c) {m : List Bool} (ht : tru c m = false) : allTrue cs m = false := by
  cases hh : allTrue cs m
  · rfl
  · have := List.all_eq_true.1 hh c (List.mem_of_getElem? h); rw [ht] at this; cases this
/-- is a number in a list? -/
def inn (zs : List Int) (x : Int) : Bool := decide (x ∈ zs)
theorem inn_iff (zs : List Int) (x : Int) : inn zs x = true ↔ x ∈ zs := by simp [inn]
theorem inn_false (zs : List Int) (x : Int) : inn zs x = false ↔ x ∉ zs := by simp [inn]
theorem inn_snoc {zs : List Int} {k : Nat} {z : Int} (h : zs[k]? = some z) (x : Int) : inn (zs.take (k + 1)) x = (inn (zs.take k) x || (z == x)) := by
  rw [List.take_add_one, h, Bool.eq_iff_iff]; simp [inn]; exact ⟨fun h => h.imp id Eq.symm, fun h => h.imp id Eq.symm⟩
theorem inn_hit {zs : List Int} {k : Nat} {z x : Int} (h : zs[k]? = some z) (hx : (z == x) = true) : inn zs x = true := by
  have e : z = x := by simpa using hx
  subst e; rw [inn_iff]; exact List.mem_of_getElem? h

/-! propagation -/
def Closed (cs : List (List Int)) (fr : List Int) (S : Int → Prop) : Prop :=
  (∀ l ∈ fr, isLit l = true → S l) ∧
  ∀ c ∈ cs, ∀ l ∈ c, isLit l = true → (∀ k ∈ c, isLit k = true → k ≠ l → S (-k)) → S l
/-- what follows, one clause behind the other -/
def Der (cs : List (List Int)) (fr : List Int) (l : Int) : Prop := ∀ S, Closed cs fr S → S l
def Conf (cs : List (List Int)) (fr : List Int) : Prop :=
  (∃ l, Der cs fr l ∧ Der cs fr (-l)) ∨ ∃ c ∈ cs, ∀ l ∈ c, isLit l = true → Der cs fr (-l)
theorem der_closed (cs : List (List Int)) (fr : List Int) : Closed cs fr (Der cs fr) :=
  ⟨fun l hl h _ hS => hS.1 l hl h, fun c hc l hl h hk S hS => hS.2 c hc l hl h fun k hk' hkl hne => hk k hk' hkl hne S hS⟩
theorem der_isLit {cs : List (List Int)} {fr : List Int} {l : Int} (h : Der cs fr l) : isLit l = true :=
  h (fun l => isLit l = true) ⟨fun _ _ h => h, fun _ _ _ _ h _ => h⟩
/-- what is answered: all that follows, in order; or that there is a conflict -/
def PropRes (cs : List (List Int)) (fr : List Int) (l : List Int) (ok : Bool) : Prop :=
  (ok = true ∧ Sorted l ∧ (∀ x, x ∈ l ↔ Der cs fr x) ∧ ¬ Conf cs fr) ∨ (ok = false ∧ l = [] ∧ Conf cs fr)
theorem PropRes.unique {cs : List (List Int)} {fr l l' : List Int} {ok ok' : Bool} (h : PropRes cs fr l ok) (h' : PropRes cs fr l' ok') : l = l' ∧ ok = ok' := by
  rcases h with ⟨rfl, hs, hm, hc⟩ | ⟨rfl, rfl, hc⟩ <;> rcases h' with ⟨rfl, hs', hm', hc'⟩ | ⟨rfl, rfl, hc'⟩
  · exact ⟨sorted_ext hs hs' fun x => (hm x).trans (hm' x).symm, rfl⟩
  · exact absurd hc' hc
  · exact absurd hc hc'
  · exact ⟨rfl, rfl⟩
/-- a set that is consistent, follows, and is closed -/
theorem PropRes.of_closed {cs : List (List Int)} {fr l : List Int} (hs : Sorted l) (hd : ∀ x ∈ l, Der cs fr x)
    (hcon : ∀ x ∈ l, -x ∉ l) (hfr : ∀ x ∈ fr, isLit x = true → x ∈ l)
    (hcl : ∀ c ∈ cs, (∃ x ∈ c, x ∈ l) ∨ ∃ x ∈ c, ∃ y ∈ c, x ≠ y ∧ isLit x = true ∧ isLit y = true ∧ -x ∉ l ∧ -y ∉ l) :
    PropRes cs fr l true := by
  have hC : Closed cs fr (· ∈ l) := by
    refine ⟨hfr, fun c hc x hx hlx hk => ?_⟩
    rcases hcl c hc with ⟨y, hy, hyl⟩ | ⟨y, hy, z, hz, hne, hly, hlz, hny, hnz⟩
    · by_cases hxy : y = x
      · exact hxy ▸ hyl
      · exact absurd (hk y hy (der_isLit (hd y hyl)) hxy) (hcon y hyl)
    · exfalso
      by_cases hxy : y = x
      · exact hnz (hk z hz hlz (fun h => hne (hxy.trans h.symm)))
      · exact hny (hk y hy hly hxy)
  have hm : ∀ x, x ∈ l ↔ Der cs fr x := fun x => ⟨hd x, fun h => h _ hC⟩
  refine .inl ⟨rfl, hs, hm, ?_⟩
  rintro (⟨x, h1, h2⟩ | ⟨c, hc, h⟩)
  · exact hcon x ((hm x).2 h1) ((hm _).2 h2)
  · rcases hcl c hc with ⟨y, hy, hyl⟩ | ⟨y, hy, z, hz, hne, hly, hlz, hny, hnz⟩
    · exact hcon y hyl ((hm _).2 (h y hy (der_isLit (hd y hyl))))
    · exact hny ((hm _).2 (h y hy hly))
/-- what follows is true in each model in which all is -/
theorem der_true {cs : List (List Int)} {fr : List Int} {m : List Bool} (hc : allTrue cs m = true) (hf : ∀ l ∈ fr, isLit l = true → holds l m = true) {l : Int} (h : Der cs fr l) : holds l m = true := by
  refine h (fun l => holds l m = true) ⟨hf, fun c hcm x hx hlx hk => ?_⟩
  have ht : tru c m = true := by
    have := List.all_eq_true.1 hc c hcm; exact this
  obtain ⟨y, hy, hyt⟩ := List.any_eq_true.1 ht
  by_cases hxy : y = x
  · exact hxy ▸ hyt
  · have hly : isLit y = true := by simp only [holds, Bool.and_eq_true] at hyt; exact hyt.1
    have : holds (-y) m = true := hk y hy hly hxy
    rw [holds_neg m hly, hyt] at this
    cases this
theorem conf_false {cs : List (List Int)} {fr : List Int} {m : List Bool} (hc : allTrue cs m = true) (hf : ∀ l ∈ fr, isLit l = true → holds l m = true) (h : Conf cs fr) : False := by
  rcases h with ⟨x, h1, h2⟩ | ⟨c, hcm, h⟩
  · have a := der_true hc hf h1
    have b := der_true hc hf h2
    rw [holds_neg m (der_isLit h1), a] at b; cases b
  · have ht : tru c m = true := List.all_eq_true.1 hc c hcm
    obtain ⟨y, hy, hyt⟩ := List.any_eq_true.1 ht
    have hly : isLit y = true := by simp only [holds, Bool.and_eq_true] at hyt; exact hyt.1
    have := der_true hc hf (h y hy hly)
    rw [holds_neg m hly, hyt] at this; cases this
/-- the closing of two clauses -/
def resolve (a b : List Int) (v : Int) : List Int := norm (a.filter (· != v) ++ b.filter (· != -v))
theorem resolve_sound {a b : List Int} {v : Int} {m : List Bool} (hv : isLit v = true) (ha : tru a m = true) (hb : tru b m = true) : tru (resolve a b v) m = true := by
  obtain ⟨x, hx, hxt⟩ := List.any_eq_true.1 ha
  obtain ⟨y, hy, hyt⟩ := List.any_eq_true.1 hb
  refine List.any_eq_true.2 ?_
  by_cases h : x = v
  · refine ⟨y, ?_, hyt⟩
    have hne : y ≠ -v := by
      rintro rfl
      subst h
      rw [holds_neg m hv, hxt] at hyt; cases hyt
    rw [resolve, mem_norm]; simp [hy, hne]
  · exact ⟨x, by rw [resolve, mem_norm]; simp [hx, h], hxt⟩
/-- the greatest variable -/
def vars (cs : List (List Int)) : Int := cs.foldl (fun g c => c.foldl (fun g l => if isLit l then max g (vr l) else g) g) 0
end Go.Proofs.YtgpifbhfnbkgoaaDoor.M

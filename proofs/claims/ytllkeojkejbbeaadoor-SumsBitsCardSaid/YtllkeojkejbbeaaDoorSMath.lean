/- Plain: sums as gates: columns of literals, what they count, digits. -/
import Derived.Test.YtllkeojkejbbeaaDoorGatesMath
namespace Go.Proofs.YtllkeojkejbbeaaDoor.M

/-- a weighted literal: the literal, its weight -/
abbrev Wt := Int × Int
def wOk (t : Wt) : Bool := decide (0 ≤ t.2) && decide (t.2 ≤ 1048576)
theorem wOk_iff (t : Wt) : wOk t = true ↔ 0 ≤ t.2 ∧ t.2 ≤ 1048576 := by simp [wOk]
def wSum (ts : List Wt) : Nat := (ts.map fun t => t.2.toNat).sum
def wCnt (ts : List Wt) : Nat := ts.countP fun t => decide (0 < t.2)
def wVal (ts : List Wt) (m : List Bool) : Nat := (ts.map fun t => if holds t.1 m then t.2.toNat else 0).sum
theorem wSum_snoc {ts : List Wt} {k : Nat} {t : Wt} (h : ts[k]? = some t) : wSum (ts.take (k + 1)) = wSum (ts.take k) + t.2.toNat := by
  rw [List.take_add_one, h]; simp [wSum]
theorem wCnt_snoc {ts : List Wt} {k : Nat} {t : Wt} (h : ts[k]? = some t) : wCnt (ts.take (k + 1)) = wCnt (ts.take k) + (if 0 < t.2 then 1 else 0) := by
  rw [List.take_add_one, h]; simp [wCnt, List.countP_append, List.countP_cons]
theorem wVal_snoc {ts : List Wt} {k : Nat} {t : Wt} (m : List Bool) (h : ts[k]? = some t) : wVal (ts.take (k + 1)) m = wVal (ts.take k) m + (if holds t.1 m then t.2.toNat else 0) := by
  rw [List.take_add_one, h]; simp [wVal]
theorem sum_le {ts : List Wt} (h : ts.all wOk = true) : wSum ts ≤ ts.length * 1048576 := by
  induction ts with
  | nil => simp [wSum]
  | cons t ts ih =>
    simp only [List.all_cons, Bool.and_eq_true] at h
    have h1 := (wOk_iff t).1 h.1
    have := ih h.2
    simp only [wSum, List.map_cons, List.sum_cons, List.length_cons] at this ⊢
    omega
theorem val_le (ts : List Wt) (m : List Bool) : wVal ts m ≤ wSum ts := by
  induction ts with
  | nil => simp [wVal, wSum]
  | cons t ts ih =>
    simp only [wVal, wSum, List.map_cons, List.sum_cons] at ih ⊢
    split <;> omega
theorem cnt_le (ts : List Wt) : wCnt ts ≤ ts.length := List.countP_le_length
theorem wSum_append (a b : List Wt) : wSum (a ++ b) = wSum a + wSum b := by simp [wSum]
theorem wCnt_append (a b : List Wt) : wCnt (a ++ b) = wCnt a + wCnt b := by simp [wCnt]
theorem wVal_append (a b : List Wt) (m : List Bool) : wVal (a ++ b) m = wVal a m + wVal b m := by simp [wVal]

/-! ### digits -/
def num : List Bool → Nat
  | [] => 0
  | b :: l => b.toNat + 2 * num l
theorem num_append (a b : List Bool) : num (a ++ b) = num a + 2 ^ a.length * num b := by
  induction a with
  | nil => simp [num]
  | cons x a ih =>
    simp only [List.cons_append, num, ih, List.length_cons, Nat.pow_succ, Nat.mul_add]
    have : 2 ^ a.length * 2 * num b = 2 * (2 ^ a.length * num b) := by rw [Nat.mul_comm (2 ^ a.length) 2, Nat.mul_assoc]
    omega
theorem num_lt (a : List Bool) : num a < 2 ^ a.length := by
  induction a with
  | nil => simp [num]
  | cons x a ih =>
    simp only [num, List.length_cons, Nat.pow_succ]
    cases x <;> simp <;> omega
theorem num_snoc {ds : List Bool} {k : Nat} {b : Bool} (h : ds[k]? = some b) : num (ds.take (k + 1)) = num (ds.take k) + (if b then 2 ^ k else 0) := by
  have hk : k < ds.length := (List.getElem?_eq_some_iff.1 h).1
  rw [List.take_add_one, h, Option.toList_some, num_append, List.length_take, Nat.min_eq_left (by omega)]
  cases b <;> simp [num]
/-- a number's binary digits -/
def dig (n : Nat) : List Bool := if h : n = 0 then [] else decide (n % 2 = 1) :: dig (n / 2)
termination_by n
decreasing_by omega
theorem dig_zero : dig 0 = [] := by rw [dig]; simp
theorem dig_pos {n : Nat} (h : n ≠ 0) : dig n = decide (n % 2 = 1) :: dig (n / 2) := by rw [dig, dif_neg h]
theorem num_dig (n : Nat) : num (dig n) = n := by
  induction n using Nat.strongRecOn with
  | _ n ih =>
    by_cases h : n = 0
    · subst h; rw [dig_zero]; rfl
    · rw [dig_pos h, num, ih (n / 2) (by omega)]
      by_cases h1 : n % 2 = 1
      · simp [h1]; omega
      · simp [h1]; omega
theorem dig_fits (n : Nat) : n < 2 ^ (dig n).length := by
  have := num_lt (dig n)
  rwa [num_dig] at this
theorem dig_len {n k : Nat} (h : n < 2 ^ k) : (dig n).length ≤ k := by
  induction k generalizing n with
  | zero =>
    have : n = 0 := by simpa using h
    subst this; rw [dig_zero]; simp
  | succ k ih =>
    by_cases h0 : n = 0
    · subst h0; rw [dig_zero]; simp
    · rw [dig_pos h0, List.length_cons]
      have := ih (n := n / 2) (by rw [Nat.pow_succ] at h; omega)
      omega
theorem dig_mono {a b : Nat} (h : a ≤ b) : (dig a).length ≤ (dig b).length := dig_len (Nat.lt_of_le_of_lt h (dig_fits b))

/-! ### columns -/
def ld (f : List Int → Nat) : List (List Int) → Nat
  | [] => 0
  | x :: L => f x + 2 * ld f L
def lens (L : List (List Int)) : Nat := (L.map List.length).sum
theorem ld_congr {f g : List Int → Nat} {L : List (List Int)} (h : ∀ x ∈ L, f x = g x) : ld f L = ld g L := by
  induction L with
  | nil => rfl
  | cons x L ih => simp only [ld]; rw [h x (by simp), ih fun y hy => h y (by simp [hy])]
theorem Gok.snoc {V : Nat} {gs : List G} {g : G} (h : Gok V gs) (h1 : own (V + gs.length) g.2 = true) (h2 : Fits g) : Gok V (gs ++ [g]) := by
  intro i g' hg
  by_cases hi : i < gs.length
  · rw [List.getElem?_append_left hi] at hg; exact h i g' hg
  · have hi2 : i = gs.length := by
      have := (List.getElem?_eq_some_iff.1 hg).1
      simp at this; omega
    subst hi2
    simp at hg; subst hg; exact ⟨h1, h2⟩
theorem own_mono {n k : Nat} (h : n ≤ k) {l : List Int} (ho : own n l = true) : own k l = true := by
  rw [own_iff] at ho ⊢
  intro x hx
  have := ho x hx
  omega
theorem own_append {n : Nat} {a b : List Int} : own n (a ++ b) = true ↔ own n a = true ∧ own n b = true := by
  simp [own]
theorem own_cons {n : Nat} {x : Int} {b : List Int} : own n (x :: b) = true ↔ own n [x] = true ∧ own n b = true := by
  simp [own]
theorem own_new (n : Nat) : own (n + 1) [((n + 1 : Nat) : Int)] = true := by
  rw [own_iff]; intro x hx; simp at hx; subst hx; omega
/-- a literal of the variables so far says of a model with a gate more what it said -/
theorem holds_more {V : Nat} {gs : List G} {m : List Bool} (hm : m.length = V) {x : Int} (hx : own (V + gs.length) [x] = true) (g : G) : holds x (ext m (gs ++ [g])) = holds x (ext m gs) := by
  rw [ext_snoc]
  refine holds_append _ _ ?_
  rw [ext_length, hm]
  exact own_vr hx x (by simp)
theorem count_more {V : Nat} {gs : List G} {m : List Bool} (hm : m.length = V) {l : List Int} (hx : own (V + gs.length) l = true) (g : G) : count l (ext m (gs ++ [g])) = count l (ext m gs) := by
  rw [ext_snoc]
  refine count_append _ _ ?_
  rw [ext_length, hm]
  exact own_vr hx
theorem holds_new {V : Nat} {gs : List G} {m : List Bool} (hm : m.length = V) (g : G) (hV : V + gs.length + 1 ≤ 20000) : holds ((V + gs.length + 1 : Nat) : Int) (ext m (gs ++ [g])) = says g.1 g.2 (ext m gs) := by
  rw [holds_pos hV, ext_snoc, List.getElem?_append_right (by rw [ext_length, hm]; omega), ext_length, hm]
  simp
theorem count_one (x : Int) (m : List Bool) : count [x] m = (holds x m).toNat := by
  unfold count; cases h : holds x m <;> simp [h]
theorem count_cons (x : Int) (l : List Int) (m : List Bool) : count (x :: l) m = (holds x m).toNat + count l m := by
  unfold count; cases h : holds x m <;> simp [h]; omega
theorem count_snoc1 (x : Int) (l : List Int) (m : List Bool) : count (l ++ [x]) m = count l m + (holds x m).toNat := by
  unfold count; rw [List.countP_append]; cases h : holds x m <;> simp [h]
theorem says_xor (x y : Int) (m : List Bool) : says 3 [x, y] m = (holds x m ^^ holds y m) := by
  show (count [x, y] m == 1) = _
  rw [count_cons, count_one]; cases holds x m <;> cases holds y m <;> rfl
theorem says_and2 (x y : Int) (m : List Bool) : says 1 [x, y] m = (holds x m && holds y m) := by
  show (count [x, y] m == 2) = _
  rw [count_cons, count_one]; cases holds x m <;> cases holds y m <;> rfl
theorem says_most (x y z : Int) (m : List Bool) : says 4 [x, y, z] m = (holds x m && holds y m || holds x m && holds z m || holds y m && holds z m) := by
  show decide (2 ≤ count [x, y, z] m) = _
  rw [count_cons, count_cons, count_one]; cases holds x m <;> cases holds y m <;> cases holds z m <;> rfl
theorem says_or0 (m : List Bool) : says 2 [] m = false := rfl

/-- what stands between the steps: gates, the columns that are left, the bits so far -/
structure SI (V sum B : Nat) (val : List Bool → Nat) (at' : Nat) (gs : List G) (L : List (List Int)) (bits : List Int) : Prop where
  bl : bits.length = at'
  ok : Gok V gs
  small : ∀ g ∈ gs, g.2.length ≤ 3
  ownL : ∀ x ∈ L, own (V + gs.length) x = true
  ownb : own (V + gs.length) bits = true
  load : 2 ^ at' * ld List.length L ≤ sum
  fits : sum < 2 ^ (at' + L.length)
  gates : gs.length + 3 * lens L + L.length ≤ B
  lim : V + B ≤ 20000
  val : ∀ m, m.length = V → num (bits.map (holds · (ext m gs))) + 2 ^ at' * ld (count · (ext m gs)) L = val m
section
variable {V sum B : Nat} {val : List Bool → Nat} {at' : Nat} {gs : List G} {L : List (List Int)} {bits : List Int}
theorem SI.next (h : SI V sum B val at' gs L bits) {c : List Int} {R : List (List Int)} (hL : L = c :: R) (h2 : 2 ≤ c.length) : ∃ d R', R = d :: R' := by
  subst hL
  cases R with
  | cons d R => exact ⟨d, R, rfl⟩
  | nil =>
    have h1 := h.load
    have h3 := h.fits
    simp only [ld, List.length_cons, List.length_nil, Nat.pow_add] at h1 h3
    have h4 : 2 ^ at' * 2 ≤ 2 ^ at' * (c.length + 2 * 0) := Nat.mul_le_mul_left _ (by omega)
    omega
/-- a gate more -/
theorem SI.gate (h : SI V sum B val at' gs L bits) {g : G} (h1 : own (V + gs.length) g.2 = true) (h2 : Fits g) (h3 : g.2.length ≤ 3) (hlim : gs.length + 1 + 3 * lens L + L.length ≤ B) : SI V sum B val at' (gs ++ [g]) L bits := by
  have e : V + (gs ++ [g]).length = V + gs.length + 1 := by simp; omega
  refine ⟨h.bl, h.ok.snoc h1 h2, fun g' hg => ?_, fun x hx => ?_, ?_, h.load, h.fits, by simp; omega, h.lim, fun m hm => ?_⟩
  · rcases List.mem_append.1 hg with hg | hg
    · exact h.small g' hg
    · simp at hg; subst hg; exact h3
  · rw [e]; exact own_mono (by omega) (h.ownL x hx)
  · rw [e]; exact own_mono (by omega) h.ownb
  · rw [← h.val m hm]
    congr 1
    · congr 1
      refine List.map_congr_left fun x hx => ?_
      refine holds_more hm ?_ g
      exact (own_iff _ _).2 fun y hy => by simp at hy; subst hy; exact (own_iff _ _).1 h.ownb _ hx
    · congr 1
      exact ld_congr fun x hx => count_more hm (h.ownL x hx) g
theorem SI.full {x y z : Int} {r d : List Int} {R : List (List Int)} (h : SI V sum B val at' gs ((x :: y :: z :: r) :: d :: R) bits) :
    own (V + gs.length) [x, y] = true ∧ own (V + gs.length + 1) [((V + gs.length + 1 : Nat) : Int), z] = true ∧ own (V + gs.length + 2) [x, y, z] = true ∧ V + gs.length + 3 ≤ 20000 ∧
    Gok V (gs ++ [((3 : Int), [x, y])]) ∧ Gok V (gs ++ [((3 : Int), [x, y])] ++ [((3 : Int), [((V + gs.length + 1 : Nat) : Int), z])]) ∧
    SI V sum B val at' (gs ++ [((3 : Int), [x, y])] ++ [((3 : Int), [((V + gs.length + 1 : Nat) : Int), z])] ++ [((4 : Int), [x, y, z])]) ((r ++ [((V + gs.length + 2 : Nat) : Int)]) :: (d ++ [((V + gs.length + 3 : Nat) : Int)]) :: R) bits := by
  have hg0 := h.gates
  have hlim := h.lim
  simp only [lens, List.map_cons, List.sum_cons, List.length_cons] at hg0
  have hoc := h.ownL _ (List.mem_cons_self)
  have hod := h.ownL d (by simp)
  have hx : own (V + gs.length) [x] = true := (own_cons.1 hoc).1
  have hoc2 := (own_cons.1 hoc).2
  have hy : own (V + gs.length) [y] = true := (own_cons.1 hoc2).1
  have hoc3 := (own_cons.1 hoc2).2
  have hz : own (V + gs.length) [z] = true := (own_cons.1 hoc3).1
  have hr : own (V + gs.length) r = true := (own_cons.1 hoc3).2
  have a1 : own (V + gs.length) [x, y] = true := own_cons.2 ⟨hx, hy⟩
  have a2 : own (V + gs.length + 1) [((V + gs.length + 1 : Nat) : Int), z] = true := own_cons.2 ⟨own_new _, own_mono (by omega) hz⟩
  have a3 : own (V + gs.length + 2) [x, y, z] = true := own_mono (by omega) (own_cons.2 ⟨hx, own_cons.2 ⟨hy, hz⟩⟩)
  have e1 : V + (gs ++ [((3 : Int), [x, y])]).length = V + gs.length + 1 := by simp; omega
  have e2 : V + (gs ++ [((3 : Int), [x, y])] ++ [((3 : Int), [((V + gs.length + 1 : Nat) : Int), z])]).length = V + gs.length + 2 := by simp; omega
  have f3 : ∀ l : List Int, l.length = 2 → Fits ((3 : Int), l) := fun l hl => ⟨fun _ => hl, fun _ _ h => absurd rfl h⟩
  have f4 : ∀ l : List Int, l.length = 3 → Fits ((4 : Int), l) := fun l hl => ⟨fun h => by simp at h, fun _ _ _ => hl⟩
  have k1 : Gok V (gs ++ [((3 : Int), [x, y])]) := h.ok.snoc a1 (f3 _ rfl)
  have k2 : Gok V (gs ++ [((3 : Int), [x, y])] ++ [((3 : Int), [((V + gs.length + 1 : Nat) : Int), z])]) := k1.snoc (by rw [e1]; exact a2) (f3 _ rfl)
  have k3 : Gok V (gs ++ [((3 : Int), [x, y])] ++ [((3 : Int), [((V + gs.length + 1 : Nat) : Int), z])] ++ [((4 : Int), [x, y, z])]) := k2.snoc (by rw [e2]; exact a3) (f4 _ rfl)
  refine ⟨a1, a2, a3, by omega, k1, k2, h.bl, k3, fun g hg => ?_, fun c hc => ?_, ?_, ?_, ?_, ?_, hlim, fun m hm => ?_⟩
  · simp only [List.mem_append, List.mem_singleton] at hg
    rcases hg with ((hg | rfl) | rfl) | rfl
    · exact h.small g hg
    · simp
    · simp
    · simp
  · have e3 : V + (gs ++ [((3 : Int), [x, y])] ++ [((3 : Int), [((V + gs.length + 1 : Nat) : Int), z])] ++ [((4 : Int), [x, y, z])]).length = V + gs.length + 3 := by simp; omega
    rw [e3]
    rcases List.mem_cons.1 hc with rfl | hc
    · exact own_append.2 ⟨own_mono (by omega) hr, own_mono (by omega) (own_new (V + gs.length + 1))⟩
    · rcases List.mem_cons.1 hc with rfl | hc
      · exact own_append.2 ⟨own_mono (by omega) hod, own_mono (by omega) (own_new (V + gs.length + 2))⟩
      · exact own_mono (by omega) (h.ownL c (by simp [hc]))
  · exact own_mono (by simp only [List.length_append, List.length_cons, List.length_nil]; omega) h.ownb
  · refine Nat.le_trans (Nat.mul_le_mul_left _ ?_) h.load
    simp only [ld, List.length_append, List.length_cons, List.length_nil]
    omega
  · have := h.fits; simp only [List.length_cons] at this ⊢; exact this
  · simp only [lens, List.map_cons, List.sum_cons, List.length_cons, List.length_append, List.length_nil]
    omega
  · rw [← h.val m hm]
    have ho : ∀ {l : List Int}, own (V + gs.length) l = true → count l (ext m (gs ++ [((3 : Int), [x, y])] ++ [((3 : Int), [((V + gs.length + 1 : Nat) : Int), z])] ++ [((4 : Int), [x, y, z])])) = count l (ext m gs) := fun {l} hl => by
      rw [count_more hm (by rw [e2]; exact own_mono (by omega) hl), count_more hm (by rw [e1]; exact own_mono (by omega) hl), count_more hm hl]
    have ho1 : ∀ {q : Int}, own (V + gs.length) [q] = true → holds q (ext m (gs ++ [((3 : Int), [x, y])] ++ [((3 : Int), [((V + gs.length + 1 : Nat) : Int), z])] ++ [((4 : Int), [x, y, z])])) = holds q (ext m gs) := fun {q} hq => by
      rw [holds_more hm (by rw [e2]; exact own_mono (by omega) hq), holds_more hm (by rw [e1]; exact own_mono (by omega) hq), holds_more hm hq]
    have hb : holds ((V + gs.length + 2 : Nat) : Int) (ext m (gs ++ [((3 : Int), [x, y])] ++ [((3 : Int), [((V + gs.length + 1 : Nat) : Int), z])] ++ [((4 : Int), [x, y, z])])) = ((holds x (ext m gs) ^^ holds y (ext m gs)) ^^ holds z (ext m gs)) := by
      rw [holds_more hm (by rw [e2]; exact own_new (V + gs.length + 1))]
      have := holds_new hm (gs := gs ++ [((3 : Int), [x, y])]) ((3 : Int), [((V + gs.length + 1 : Nat) : Int), z]) (by rw [e1]; omega)
      rw [e1] at this
      rw [this, says_xor, holds_new hm _ (by omega), says_xor, holds_more hm hz]
    have hc : holds ((V + gs.length + 3 : Nat) : Int) (ext m (gs ++ [((3 : Int), [x, y])] ++ [((3 : Int), [((V + gs.length + 1 : Nat) : Int), z])] ++ [((4 : Int), [x, y, z])])) = (holds x (ext m gs) && holds y (ext m gs) || holds x (ext m gs) && holds z (ext m gs) || holds y (ext m gs) && holds z (ext m gs)) := by
      have := holds_new hm (gs := gs ++ [((3 : Int), [x, y])] ++ [((3 : Int), [((V + gs.length + 1 : Nat) : Int), z])]) ((4 : Int), [x, y, z]) (by rw [e2]; omega)
      rw [e2] at this
      rw [this, says_most]
      have hq : ∀ {q : Int}, own (V + gs.length) [q] = true → holds q (ext m (gs ++ [((3 : Int), [x, y])] ++ [((3 : Int), [((V + gs.length + 1 : Nat) : Int), z])])) = holds q (ext m gs) := fun {q} hq => by
        rw [holds_more hm (by rw [e1]; exact own_mono (by omega) hq), holds_more hm hq]
      rw [hq hx, hq hy, hq hz]
    have E1 : bits.map (holds · (ext m (gs ++ [((3 : Int), [x, y])] ++ [((3 : Int), [((V + gs.length + 1 : Nat) : Int), z])] ++ [((4 : Int), [x, y, z])]))) = bits.map (holds · (ext m gs)) := List.map_congr_left fun q hq => ho1 ((own_iff _ _).2 fun y hy => by simp at hy; subst hy; exact (own_iff _ _).1 h.ownb _ hq)
    rw [E1]
    simp only [ld]
    rw [count_snoc1, count_snoc1, hb, hc, ho hr, ho hod, ld_congr (g := (count · (ext m gs))) (fun q hq => ho (h.ownL q (by simp [hq])))]
    rw [count_cons, count_cons, count_cons]
    have E3 : ∀ A B C : Nat, B = C → A + 2 ^ at' * B = A + 2 ^ at' * C := fun A B C h => by rw [h]
    refine E3 _ _ _ ?_
    generalize holds x (ext m gs) = u1
    generalize holds y (ext m gs) = u2
    generalize holds z (ext m gs) = u3
    cases u1 <;> cases u2 <;> cases u3 <;> simp <;> omega
theorem SI.last1 {x : Int} {R : List (List Int)} (h : SI V sum B val at' gs ([x] :: R) bits) : SI V sum B val (at' + 1) gs R (bits ++ [x]) := by
  have hg0 := h.gates
  simp only [lens, List.map_cons, List.sum_cons, List.length_cons, List.length_nil] at hg0
  have hox := h.ownL _ (List.mem_cons_self)
  refine ⟨by simp [h.bl], h.ok, h.small, fun c hc => h.ownL c (by simp [hc]), own_append.2 ⟨h.ownb, hox⟩, ?_, ?_, by simp only [lens]; omega, h.lim, fun m hm => ?_⟩
  · refine Nat.le_trans ?_ h.load
    simp only [ld, List.length_cons, List.length_nil, Nat.pow_succ, Nat.mul_add, Nat.mul_assoc]
    omega
  · have := h.fits
    rw [show at' + 1 + R.length = at' + ([x] :: R).length by simp; omega]; exact this
  · rw [← h.val m hm, List.map_append, num_append, List.length_map, h.bl]
    simp only [ld, count_one, Nat.pow_succ, Nat.mul_add, List.map_cons, List.map_nil, num, Nat.mul_assoc]
    omega
theorem SI.last0 {R : List (List Int)} (h : SI V sum B val at' gs ([] :: R) bits) : V + gs.length + 1 ≤ 20000 ∧ SI V sum B val (at' + 1) (gs ++ [((2 : Int), ([] : List Int))]) R (bits ++ [((V + gs.length + 1 : Nat) : Int)]) := by
  have hg0 := h.gates
  have hlim := h.lim
  simp only [lens, List.map_cons, List.sum_cons, List.length_cons, List.length_nil] at hg0
  have e : V + (gs ++ [((2 : Int), ([] : List Int))]).length = V + gs.length + 1 := by simp; omega
  refine ⟨by omega, by simp [h.bl], h.ok.snoc (by simp [own]) ⟨fun h => by simp at h, fun _ h => absurd rfl h⟩, fun g hg => ?_, fun c hc => ?_, ?_, ?_, ?_, ?_, hlim, fun m hm => ?_⟩
  · rcases List.mem_append.1 hg with hg | hg
    · exact h.small g hg
    · simp at hg; subst hg; simp
  · rw [e]; exact own_mono (by omega) (h.ownL c (by simp [hc]))
  · rw [e]; exact own_append.2 ⟨own_mono (by omega) h.ownb, own_new _⟩
  · refine Nat.le_trans ?_ h.load
    simp only [ld, List.length_nil, Nat.pow_succ, Nat.mul_add, Nat.mul_assoc]
    omega
  · have := h.fits
    rw [show at' + 1 + R.length = at' + ([] :: R : List (List Int)).length by simp; omega]; exact this
  · simp only [List.length_append, List.length_cons, List.length_nil, lens]; omega
  · rw [← h.val m hm, List.map_append, num_append, List.length_map, h.bl]
    simp only [List.map_cons, List.map_nil, num]
    rw [holds_new hm _ (by omega), says_or0]
    have e1 : bits.map (holds · (ext m (gs ++ [((2 : Int), ([] : List Int))]))) = bits.map (holds · (ext m gs)) := List.map_congr_left fun q hq => holds_more hm ((own_iff _ _).2 fun y hy => by simp at hy; subst hy; exact (own_iff _ _).1 h.ownb _ hq) _
    have e2 : ld (count · (ext m (gs ++ [((2 : Int), ([] : List Int))]))) R = ld (count · (ext m gs)) R := ld_congr fun q hq => count_more hm (h.ownL q (by simp [hq])) _
    rw [e1, e2]
    simp only [ld, Nat.pow_succ, Nat.mul_assoc, show count [] (ext m gs) = 0 from rfl]
    simp
theorem SI.last2 {x y : Int} {d : List Int} {R : List (List Int)} (h : SI V sum B val at' gs ([x, y] :: d :: R) bits) :
    own (V + gs.length) [x, y] = true ∧ own (V + gs.length + 1) [x, y] = true ∧ V + gs.length + 2 ≤ 20000 ∧ Gok V (gs ++ [((3 : Int), [x, y])]) ∧
    SI V sum B val (at' + 1) (gs ++ [((3 : Int), [x, y])] ++ [((1 : Int), [x, y])]) ((d ++ [((V + gs.length + 2 : Nat) : Int)]) :: R) (bits ++ [((V + gs.length + 1 : Nat) : Int)]) := by
  have hg0 := h.gates
  have hlim := h.lim
  simp only [lens, List.map_cons, List.sum_cons, List.length_cons, List.length_nil] at hg0
  have hoc := h.ownL _ (List.mem_cons_self)
  have hod := h.ownL d (by simp)
  have hx : own (V + gs.length) [x] = true := (own_cons.1 hoc).1
  have hy : own (V + gs.length) [y] = true := (own_cons.1 hoc).2
  have e1 : V + (gs ++ [((3 : Int), [x, y])]).length = V + gs.length + 1 := by simp; omega
  have e2 : V + (gs ++ [((3 : Int), [x, y])] ++ [((1 : Int), [x, y])]).length = V + gs.length + 2 := by simp; omega
  have k1 : Gok V (gs ++ [((3 : Int), [x, y])]) := h.ok.snoc hoc ⟨fun _ => rfl, fun _ _ h => absurd rfl h⟩
  have a2 : own (V + gs.length + 1) [x, y] = true := own_mono (by omega) hoc
  have k2 : Gok V (gs ++ [((3 : Int), [x, y])] ++ [((1 : Int), [x, y])]) := k1.snoc (by rw [e1]; exact a2) ⟨fun h => by simp at h, fun h => absurd rfl h⟩
  refine ⟨hoc, a2, by omega, k1, by simp [h.bl], k2, fun g hg => ?_, fun c hc => ?_, ?_, ?_, ?_, ?_, hlim, fun m hm => ?_⟩
  · simp only [List.mem_append, List.mem_singleton] at hg
    rcases hg with (hg | rfl) | rfl
    · exact h.small g hg
    · simp
    · simp
  · rw [e2]
    rcases List.mem_cons.1 hc with rfl | hc
    · exact own_append.2 ⟨own_mono (by omega) hod, own_new (V + gs.length + 1)⟩
    · exact own_mono (by omega) (h.ownL c (by simp [hc]))
  · rw [e2]; exact own_append.2 ⟨own_mono (by omega) h.ownb, own_mono (by omega) (own_new (V + gs.length))⟩
  · refine Nat.le_trans ?_ h.load
    rw [Nat.pow_succ, Nat.mul_assoc]
    refine Nat.mul_le_mul_left _ ?_
    simp only [ld, List.length_append, List.length_cons, List.length_nil]
    omega
  · have := h.fits
    rw [show at' + 1 + ((d ++ [((V + gs.length + 2 : Nat) : Int)]) :: R).length = at' + ([x, y] :: d :: R).length by simp; omega]; exact this
  · simp only [lens, List.map_cons, List.sum_cons, List.length_cons, List.length_append, List.length_nil]
    omega
  · have ho1 : ∀ {q : Int}, own (V + gs.length) [q] = true → holds q (ext m (gs ++ [((3 : Int), [x, y])] ++ [((1 : Int), [x, y])])) = holds q (ext m gs) := fun {q} hq => by
      rw [holds_more hm (by rw [e1]; exact own_mono (by omega) hq), holds_more hm hq]
    have ho : ∀ {l : List Int}, own (V + gs.length) l = true → count l (ext m (gs ++ [((3 : Int), [x, y])] ++ [((1 : Int), [x, y])])) = count l (ext m gs) := fun {l} hl => by
      rw [count_more hm (by rw [e1]; exact own_mono (by omega) hl), count_more hm hl]
    have hb : holds ((V + gs.length + 1 : Nat) : Int) (ext m (gs ++ [((3 : Int), [x, y])] ++ [((1 : Int), [x, y])])) = (holds x (ext m gs) ^^ holds y (ext m gs)) := by
      rw [holds_more hm (by rw [e1]; exact own_new _), holds_new hm _ (by omega), says_xor]
    have hc : holds ((V + gs.length + 2 : Nat) : Int) (ext m (gs ++ [((3 : Int), [x, y])] ++ [((1 : Int), [x, y])])) = (holds x (ext m gs) && holds y (ext m gs)) := by
      have := holds_new hm (gs := gs ++ [((3 : Int), [x, y])]) ((1 : Int), [x, y]) (by rw [e1]; omega)
      rw [e1] at this
      rw [this, says_and2, holds_more hm hx, holds_more hm hy]
    have e4 : bits.map (holds · (ext m (gs ++ [((3 : Int), [x, y])] ++ [((1 : Int), [x, y])]))) = bits.map (holds · (ext m gs)) := List.map_congr_left fun q hq => ho1 ((own_iff _ _).2 fun y hy => by simp at hy; subst hy; exact (own_iff _ _).1 h.ownb _ hq)
    rw [← h.val m hm, List.map_append, num_append, List.length_map, h.bl, e4]
    simp only [List.map_cons, List.map_nil, num, ld]
    rw [hb, count_snoc1, hc, ho hod, ld_congr (g := (count · (ext m gs))) (fun q hq => ho (h.ownL q (by simp [hq]))), count_cons, count_one]
    rw [Nat.pow_succ, Nat.mul_assoc, Nat.add_assoc, ← Nat.mul_add]
    have E3 : ∀ A B C : Nat, B = C → A + 2 ^ at' * B = A + 2 ^ at' * C := fun A B C h => by rw [h]
    refine E3 _ _ _ ?_
    generalize holds x (ext m gs) = u1
    generalize holds y (ext m gs) = u2
    cases u1 <;> cases u2 <;> simp <;> omega
end
end Go.Proofs.YtllkeojkejbbeaaDoor.M

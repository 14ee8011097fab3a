/- Plain: the columns are filled by the weights' digits. -/
import Derived.Test.YtllkeojkejbbeaaDoorSMath
namespace Go.Proofs.YtllkeojkejbbeaaDoor.M

theorem ld_set {f : List Int → Nat} : ∀ {cols : List (List Int)} {j : Nat} {x : List Int} (y : List Int), cols[j]? = some x → ld f (cols.set j y) + 2 ^ j * f x = ld f cols + 2 ^ j * f y
  | [], j, x, y, h => by simp at h
  | c :: cols, 0, x, y, h => by
    simp at h; subst h
    simp only [List.set_cons_zero, ld]; omega
  | c :: cols, j + 1, x, y, h => by
    have ih := ld_set (f := f) (cols := cols) (j := j) (x := x) y (by simpa using h)
    simp only [List.set_cons_succ, ld, Nat.pow_succ]
    have e1 : 2 ^ j * 2 * f x = 2 * (2 ^ j * f x) := by rw [Nat.mul_comm (2 ^ j) 2, Nat.mul_assoc]
    have e2 : 2 ^ j * 2 * f y = 2 * (2 ^ j * f y) := by rw [Nat.mul_comm (2 ^ j) 2, Nat.mul_assoc]
    omega
theorem lens_set : ∀ {cols : List (List Int)} {j : Nat} {x : List Int} (y : List Int), cols[j]? = some x → lens (cols.set j y) + x.length = lens cols + y.length
  | [], j, x, y, h => by simp at h
  | c :: cols, 0, x, y, h => by
    simp at h; subst h
    simp only [List.set_cons_zero, lens, List.map_cons, List.sum_cons]; omega
  | c :: cols, j + 1, x, y, h => by
    have ih := lens_set (cols := cols) (j := j) (x := x) y (by simpa using h)
    simp only [List.set_cons_succ, lens, List.map_cons, List.sum_cons] at ih ⊢; omega
/-- the columns so far: their load, their value in each model, how many literals -/
structure FI (V n S : Nat) (W : List Bool → Nat) (N : Nat) (cols : List (List Int)) : Prop where
  len : cols.length = n
  own : ∀ x ∈ cols, own V x = true
  load : ld List.length cols = S
  val : ∀ m, ld (count · m) cols = W m
  lens : lens cols ≤ N
theorem FI.start (V n : Nat) : FI V n 0 (fun _ => 0) 0 (List.replicate n []) := by
  refine ⟨by simp, fun x hx => by rw [(List.mem_replicate.1 hx).2]; rfl, ?_, fun m => ?_, ?_⟩
  · induction n with
    | zero => rfl
    | succ n ih => rw [List.replicate_succ, ld, ih]; rfl
  · induction n with
    | zero => rfl
    | succ n ih => rw [List.replicate_succ, ld, ih]; rfl
  · induction n with
    | zero => exact Nat.le_refl _
    | succ n ih =>
      have e : M.lens (List.replicate (n + 1) ([] : List Int)) = 0 + M.lens (List.replicate n ([] : List Int)) := rfl
      rw [e]; omega
theorem FI.put {V n S N j : Nat} {W : List Bool → Nat} {cols : List (List Int)} {x : List Int} {lit : Int} (h : FI V n S W N cols) (hx : cols[j]? = some x) (ho : M.own V [lit] = true) :
    FI V n (S + 2 ^ j) (fun m => W m + 2 ^ j * (holds lit m).toNat) (N + 1) (cols.set j (x ++ [lit])) := by
  refine ⟨by simp [h.len], fun y hy => ?_, ?_, fun m => ?_, ?_⟩
  · rcases List.mem_or_eq_of_mem_set hy with hy | rfl
    · exact h.own y hy
    · exact own_append.2 ⟨h.own x (List.mem_of_getElem? hx), ho⟩
  · have := ld_set (f := List.length) (x ++ [lit]) hx
    rw [h.load, List.length_append, List.length_singleton, Nat.mul_add, Nat.mul_one] at this
    omega
  · have := ld_set (f := (count · m)) (x ++ [lit]) hx
    rw [h.val m, count_snoc1, Nat.mul_add] at this
    omega
  · have h1 := lens_set (x ++ [lit]) hx
    have h2 := h.lens
    rw [List.length_append, List.length_singleton] at h1
    omega
theorem FI.eq {V n S S' N N' : Nat} {W W' : List Bool → Nat} {cols : List (List Int)} (h : FI V n S W N cols) (h1 : S = S') (h2 : ∀ m, W m = W' m) (h3 : N ≤ N') : FI V n S' W' N' cols := by
  subst h1
  exact ⟨h.len, h.own, h.load, fun m => (h.val m).trans (h2 m), Nat.le_trans h.lens h3⟩
theorem FI.si {V n N B : Nat} {ts : List Wt} {cols : List (List Int)} (h : FI V n (wSum ts) (wVal ts) N cols) (hn : n = (dig (wSum ts)).length) (hB : 3 * N + n ≤ B) (hV : V + B ≤ 20000) : SI V (wSum ts) B (wVal ts) 0 [] cols [] := by
  refine ⟨rfl, fun i g hg => by simp at hg, fun g hg => by simp at hg, fun x hx => h.own x hx, rfl, by rw [h.load]; omega, ?_, ?_, hV, fun m _ => ?_⟩
  · rw [Nat.zero_add, h.len, hn]; exact dig_fits _
  · have := h.lens; rw [h.len]; simp only [List.length_nil]; omega
  · rw [ext_nil, h.val m]; simp [num]
/-- in the round of a term: its literal's digits so far -/
theorem FI.digit {V n S N j : Nat} {W : List Bool → Nat} {cols : List (List Int)} {x : List Int} {lit : Int} {ds : List Bool} (h : FI V n (S + num (ds.take j)) (fun m => W m + num (ds.take j) * (holds lit m).toNat) N cols) (hd : ds[j]? = some true) (hx : cols[j]? = some x) (ho : M.own V [lit] = true) :
    FI V n (S + num (ds.take (j + 1))) (fun m => W m + num (ds.take (j + 1)) * (holds lit m).toNat) (N + 1) (cols.set j (x ++ [lit])) := by
  have e := num_snoc hd
  rw [if_pos rfl] at e
  refine (h.put hx ho).eq (by rw [e]; omega) (fun m => ?_) (Nat.le_refl _)
  rw [e, Nat.add_mul]; omega
theorem FI.skip {V n S N j : Nat} {W : List Bool → Nat} {cols : List (List Int)} {lit : Int} {ds : List Bool} (h : FI V n (S + num (ds.take j)) (fun m => W m + num (ds.take j) * (holds lit m).toNat) N cols) (hd : ds[j]? = some false) :
    FI V n (S + num (ds.take (j + 1))) (fun m => W m + num (ds.take (j + 1)) * (holds lit m).toNat) N cols := by
  have e := num_snoc hd
  rw [if_neg (by simp), Nat.add_zero] at e
  exact h.eq (by rw [e]; rfl) (fun m => by rw [e]; rfl) (Nat.le_refl _)
theorem FI.term {V n N k : Nat} {ts : List Wt} {t : Wt} {cols : List (List Int)} (ht : ts[k]? = some t) (h : FI V n (wSum (ts.take k) + num (dig t.2.toNat)) (fun m => wVal (ts.take k) m + num (dig t.2.toNat) * (holds t.1 m).toNat) N cols) : FI V n (wSum (ts.take (k + 1))) (wVal (ts.take (k + 1))) N cols := by
  refine h.eq (by rw [wSum_snoc ht, num_dig]) (fun m => ?_) (Nat.le_refl _)
  rw [wVal_snoc m ht, num_dig]
  cases holds t.1 m <;> simp
/-- how many literals the columns get -/
def ones (ds : List Bool) : Nat := ds.countP id
def wLen (ts : List Wt) : Nat := (ts.map fun t => ones (dig t.2.toNat)).sum
theorem ones_yes {ds : List Bool} {j : Nat} (h : ds[j]? = some true) : ones (ds.take (j + 1)) = ones (ds.take j) + 1 := by
  unfold ones; rw [List.take_add_one, h, List.countP_append]; rfl
theorem ones_no {ds : List Bool} {j : Nat} (h : ds[j]? = some false) : ones (ds.take (j + 1)) = ones (ds.take j) := by
  unfold ones; rw [List.take_add_one, h, List.countP_append]; rfl
theorem ones_le (ds : List Bool) : ones ds ≤ ds.length := List.countP_le_length
theorem wLen_snoc {ts : List Wt} {k : Nat} {t : Wt} (h : ts[k]? = some t) : wLen (ts.take (k + 1)) = wLen (ts.take k) + ones (dig t.2.toNat) := by
  rw [List.take_add_one, h]; simp [wLen]
theorem dig_w {t : Wt} (h : wOk t = true) : (dig t.2.toNat).length ≤ 21 := by
  have := (wOk_iff t).1 h
  exact dig_len (by omega)
theorem wSum_mem {ts : List Wt} {t : Wt} (h : t ∈ ts) : t.2.toNat ≤ wSum ts := by
  induction ts with
  | nil => simp at h
  | cons x ts ih =>
    simp only [wSum, List.map_cons, List.sum_cons] at ih ⊢
    rcases List.mem_cons.1 h with rfl | h
    · omega
    · have := ih h; omega
theorem wLen_le {ts : List Wt} (h : ts.all wOk = true) : wLen ts ≤ 21 * ts.length := by
  induction ts with
  | nil => simp [wLen]
  | cons t ts ih =>
    simp only [List.all_cons, Bool.and_eq_true] at h
    have h1 := dig_w h.1
    have h2 := ones_le (dig t.2.toNat)
    have h3 := ih h.2
    simp only [wLen, List.map_cons, List.sum_cons, List.length_cons] at h3 ⊢
    omega
end Go.Proofs.YtllkeojkejbbeaaDoor.M
